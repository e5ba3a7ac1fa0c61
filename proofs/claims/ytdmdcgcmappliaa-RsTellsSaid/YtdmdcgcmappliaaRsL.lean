/-
  RsBack.
-/
import Derived.Test.YtdmdcgcmappliaaRsJ
import Derived.Test.YtdmdcgcmappliaaMxO
namespace Go.Proofs.Ytdmdcgcmappliaa
open Go.RowKit Gf
set_option maxRecDepth 100000
set_option maxHeartbeats 4000000
attribute [local go_sem] min_int2 max_int2 bstr_toList

theorem keepM_all (E : Mat.M) {nn : Nat} (h : E.length = nn) : keepM E (fun _ => true) nn nn = E := by
  apply List.ext_getElem?
  intro p
  by_cases hp : p < nn
  · rw [keepM_get E _ hp, if_pos ⟨hp, rfl⟩, List.getElem?_eq_getElem (by omega), Mat.getD_lt (by omega) []]
  · rw [List.getElem?_eq_none (by rw [keepM_len]; omega), List.getElem?_eq_none (by omega)]
theorem keepM_drop (E : Mat.M) (bt : Nat → Bool) {nn z : Nat} (hz : z < nn) : (keepM E bt nn nn).set z [] = keepM E (fun p => if p = z then false else bt p) nn nn := by
  apply List.ext_getElem?
  intro p
  rw [List.getElem?_set]
  by_cases hp : p < nn
  · rw [keepM_get E (fun p => if p = z then false else bt p) hp]
    by_cases e : z = p
    · rw [if_pos e, if_pos (by rw [keepM_len]; exact hz), if_neg]
      rintro ⟨-, h⟩
      rw [if_pos e.symm] at h
      cases h
    · rw [if_neg e, keepM_get E bt hp]
      by_cases h2 : bt p = true
      · rw [if_pos ⟨hp, h2⟩, if_pos ⟨hp, by rw [if_neg (fun h => e h.symm)]; exact h2⟩]
      · rw [if_neg (fun h => h2 h.2), if_neg]
        rintro ⟨-, h⟩
        rw [if_neg (fun h => e h.symm)] at h
        exact h2 h
  · rw [if_neg (by omega), List.getElem?_eq_none (by rw [keepM_len]; omega), List.getElem?_eq_none (by rw [keepM_len]; omega)]
theorem cnt_drop (bt : Nat → Bool) (z : Nat) (hb : bt z = true) : ∀ i, cnt (fun p => if p = z then false else bt p) i + (if z < i then 1 else 0) = cnt bt i
  | 0 => by rw [if_neg (by omega)]; rfl
  | i + 1 => by
    have ih := cnt_drop bt z hb i
    rw [cnt_succ, cnt_succ]
    by_cases e : i = z
    · subst e
      rw [if_neg (by omega)] at ih
      rw [if_neg (by simp), if_pos (by omega), if_pos hb]
      omega
    · simp only [if_neg e]
      by_cases h : z < i
      · rw [if_pos h] at ih
        rw [if_pos (show z < i + 1 by omega)]
        split <;> omega
      · rw [if_neg h] at ih
        rw [if_neg (show ¬ z < i + 1 by omega)]
        split <;> omega
theorem cnt_all : ∀ i, cnt (fun _ => true) i = i
  | 0 => rfl
  | i + 1 => by rw [cnt_succ, if_pos rfl, cnt_all i]
theorem nil_neq : ∀ (w : World) (a : Option Addr) (n c n' c' : Nat), (binOp .neq 34 (.slice a n c) (.slice none n' c')).run Try.prog w = .ok (.bool (!a.isNone)) w := fun w a n c n' c' => by
  simp only [binOp]
  simp [Op.equal, Op.maxDepth, Lib.run_equalIn_slice_nil w 9999 34 5 a n c n' c' Try.underlying34]
theorem rsback_any (w : World) (va : Value) (a : Mat.M) (ha : BRows w va a) (la : a.length ≤ 140737488351232) (ra : ∀ l ∈ a, l.length ≤ 140737488351232) (x : UInt8) (vl : Value) (lost : List UInt8) (hlost : Bytes w vl lost) (_ll : lost.length ≤ maxLen) :
    Calls Try.prog 14 #[va, bv x, vl] w fun e w' => e = .returned (.bool true) ∧ Ext w w' := by
  obtain ⟨aa, ac, rfl⟩ := ha.form
  have HA := Lib.hid ha
  have HL := Lib.hid (And.intro ra la)
  obtain ⟨pa, pc, rfl⟩ := hlost.slice
  have HLO := Lib.hid hlost
  unfold maxLen at _ll
  have hll := _ll
  clear ha la ra hlost _ll
  go_enter Try.func14, Try.ntmps14
  go_wp2_with fail
  refine (rsawake_any _).mono ?_; rintro e w1 ⟨rfl, x1⟩
  have HA1 := Lib.hid (HA.out.ext x1)
  have X1 := Lib.hid x1
  clear x1 HA
  go_wp2_with fail
  refine (small3_any _ a HL.out.1 HL.out.2 _ HA1.out).mono ?_; rintro e w' ⟨d1, rfl, S1, rfl⟩
  cases d1
  case false =>
    go_wp2_with fail
    go_ret
    exact ⟨rfl, X1.out⟩
  have SA := Lib.hid (S1.out rfl)
  clear S1
  by_cases h0 : a.length = 0
  case pos =>
    have q0 : ((a.length : Int) == 0) = true := beq_iff_eq.2 (by omega)
    clear h0
    go_wp2_with fail
    go_ret
    exact ⟨rfl, X1.out⟩
  have q0 : ((a.length : Int) == 0) = false := beq_eq_false_iff_ne.2 (by omega)
  by_cases h30 : 30 < a.length
  case pos =>
    have q1 : (30 : Int) < (a.length : Int) := by omega
    clear h0 h30
    go_wp2_with fail
    go_ret
    exact ⟨rfl, X1.out⟩
  have q1 : (a.length : Int) ≤ 30 := by omega
  obtain ⟨k, hk⟩ : ∃ k, a.length = k := ⟨_, rfl⟩
  obtain ⟨n0, hn0⟩ : ∃ n0, (a.getD 0 []).length = n0 := ⟨_, rfl⟩
  have h0a : 0 < a.length := by omega
  obtain ⟨ab, ao, ra0, rc0, rfl, c0, -⟩ := HA1.out.at (List.getElem?_eq_getElem h0a)
  rw [Nat.add_zero, ← Mat.getD_lt h0a [], hn0] at c0
  rw [hk] at HA1 q0 q1 h0 h30 ⊢
  have HK := Lib.hid hk
  have N0 := Lib.hid hn0
  have n0b : n0 ≤ 4000 := by
    rw [← hn0, Mat.getD_lt h0a []]
    exact SA.out.2 _ (List.getElem_mem _)
  obtain ⟨m, hm⟩ : ∃ m : Nat, 1 + x.toNat % 10 = m := ⟨_, rfl⟩
  have f1 := Lib.hid (wrap_mod x 10 m (by omega) (by omega) hm)
  have m1 : 1 ≤ m := by omega
  have m2 : m ≤ 10 := by omega
  have k1 : 1 ≤ k := by omega
  have k2 : k ≤ 30 := by omega
  clear hk h0 h30 hm hn0 h0a
  by_cases hn : n0 = 0
  case pos =>
    have q5 : ((n0 : Int) == 0) = true := beq_iff_eq.2 (by omega)
    clear hn
    go_wp2_with fail
    go_ret
    exact ⟨rfl, X1.out⟩
  have q5 : ((n0 : Int) == 0) = false := beq_eq_false_iff_ne.2 (by omega)
  have n0p : 0 < n0 := by omega
  clear hn
  go_wp2_with fail
  rw [show Go.RowKit.wrap64 (1 + (Go.RowKit.wrap64 (x.toNat : Int)).tmod 10) = (m : Int) from f1.out]
  clear f1
  refine (rsnew_any k m k1 m1 (by omega) _).mono ?_; rintro e w2 ⟨cb, X, hX, rfl, hC, x2⟩
  have HX := Lib.hid (CodeMat.of_sys k1 m1 (by omega) hX)
  have HXs := Lib.hid hX
  have HC := Lib.hid hC
  have HA2 := Lib.hid (HA1.out.ext x2)
  have X2 := Lib.hid (Ext.trans X1.out x2)
  clear x2 hC hX HA1 c0 q0 q1 q5
  go_wp2_with fail
  by_cases hev : ∀ r ∈ a, r.length = n0
  case neg =>
    have HEV := Lib.hid hev
    clear hev
    refine (enc_no cb k (k + m) X _ a k1 (by rw [HK.out]; omega) (fun h => HEV.out (by rw [← N0.out]; exact h.2)) _ HC.out HA2.out).mono ?_; rintro e w' ⟨rfl, rfl⟩
    go_wp2_with fail
    go_loopw [12] (fun v12 wr => ∃ i : Nat, i ≤ k ∧ v12 = .int .i64 (i : Nat) ∧ Hid ((∀ j, j < i → (a.getD j []).length = n0) ∧ Ext w2 wr)) (fun v12 _ => (k - intOf v12).toNat)
    case atStart => exact ⟨0, by omega, rfl, Lib.hid ⟨fun j h => by omega, Ext.refl _⟩⟩
    case round =>
      obtain ⟨i, hi, rfl, hR⟩ := hrel
      by_cases hlt : i < k
      · have hlt' : (i : Int) < (k : Int) := by omega
        have hia : i < a.length := by rw [HK.out]; exact hlt
        have h0a : 0 < a.length := by rw [HK.out]; exact k1
        obtain ⟨qa, qc, c1, -⟩ := (HA2.out.ext hR.out.2).rowAt (List.getElem?_eq_getElem hia)
        obtain ⟨ra0, rc0, c0, -⟩ := (HA2.out.ext hR.out.2).rowAt (List.getElem?_eq_getElem h0a)
        rw [Nat.add_zero, ← Mat.getD_lt h0a [], N0.out] at c0
        obtain ⟨p, hp⟩ : ∃ p, a[i].length = p := ⟨_, rfl⟩
        rw [hp] at c1
        have HP := Lib.hid (show (a.getD i []).length = p from by rw [Mat.getD_lt hia []]; exact hp)
        clear hp hia h0a
        by_cases e1 : p = n0
        · have q3 : ((p : Int) != (n0 : Int)) = false := (bne_len _ _).trans (decide_eq_false (fun h => h e1))
          have E1 := Lib.hid e1
          clear e1
          go_wp2_with fail
          go_quiet (fail)
          have HN := Lib.hid (show (∀ j, j < i + 1 → (a.getD j []).length = n0) ∧ Ext w2 (wr.drewN nq) from ⟨fun j hj => by
            by_cases e : j = i
            · subst e; rw [HP.out, E1.out]
            · exact hR.out.1 j (by omega), Ext.trans hR.out.2 (Ext.of_drawn _ _)⟩)
          generalize wr.drewN nq = wt at HN ⊢
          go_wp2_with fail
          exact ⟨⟨i + 1, by omega, by go_num, HN⟩, by simp [intOf]; omega⟩
        · have q3 : ((p : Int) != (n0 : Int)) = true := (bne_len _ _).trans (decide_eq_true e1)
          clear e1
          go_wp2_with fail
          go_quiet (fail)
          have x8 := Lib.hid (Ext.trans X2.out (Ext.trans hR.out.2 (Ext.of_drawn wr nq)))
          generalize wr.drewN nq = wt at x8 ⊢
          go_wp2_with fail
          go_ret
          exact ⟨rfl, x8.out⟩
      · refine absurd (fun r hr => ?_) HEV.out
        obtain ⟨j, hj⟩ := List.getElem?_of_mem hr
        have hj2 := (List.getElem?_eq_some_iff.1 hj).1
        have h3 := hR.out.1 j (by have := HK.out; omega)
        rw [Mat.getD_lt hj2 [], (List.getElem?_eq_some_iff.1 hj).2] at h3
        exact h3
  have SAh := Lib.hid (show Mat.Sh a k n0 from ⟨HK.out, hev⟩)
  clear hev
  refine (enc_any cb k (k + m) X _ a n0 (by omega) HX.out SAh.out _ HC.out HA2.out).mono ?_; rintro e w4 ⟨ea, rfl, hEA, x4⟩
  obtain ⟨nn, hnn⟩ : ∃ nn, k + m = nn := ⟨_, rfl⟩
  have HXn := HX.out
  have HC4 := HC.out.ext x4
  rw [hnn] at HXn HC4
  have l1 : (Mat.mmul X a n0).length = nn := (Mat.mmul_sh (b := a) (m := n0) HXn.sh).1
  obtain ⟨E, hE⟩ : ∃ E, Mat.mmul X a n0 = E := ⟨_, rfl⟩
  rw [hE] at hEA l1
  obtain ⟨g, gc, rfl, -⟩ := hEA.open1 (by rw [l1]; omega)
  rw [l1] at hEA ⊢
  have EB := Lib.hid hEA.brows
  have XH := Lib.hid HXn
  have HCH := Lib.hid HC4
  have HE := Lib.hid (And.intro hE (And.intro hnn l1))
  have HA4 := Lib.hid (HA2.out.ext x4)
  have HLO4 := Lib.hid (HLO.out.ext (Ext.trans X2.out x4))
  have X4 := Lib.hid (Ext.trans X2.out x4)
  have nnb : nn ≤ 40 := by omega
  have nn1 : 1 ≤ nn := by omega
  have hkm : (k : Int) + (m : Int) = (nn : Int) := by omega
  have q9 : ((nn : Int) != (nn : Int)) = false := by simp
  clear HXn HC4 hE hEA l1 hnn x4 HX HC HA2 HLO
  go_wp2_with fail
  go_loopw [12] (fun v12 wr => ∃ i : Nat, i ≤ k ∧ v12 = .int .i64 (i : Nat) ∧ Ext w4 wr) (fun v12 _ => (k - intOf v12).toNat)
  case atStart => exact ⟨0, by omega, rfl, Ext.refl _⟩
  case round =>
    obtain ⟨i, hi, rfl, hR⟩ := hrel
    by_cases hlt : i < k
    · have hlt' : (i : Int) < (k : Int) := by omega
      have g1 := SAh.out.get hlt
      have g0 := SAh.out.get (show 0 < k by omega)
      obtain ⟨qa, qc, c1, -⟩ := (HA4.out.ext hR).rowAt g1.1
      obtain ⟨ra0, rc0, c0, -⟩ := (HA4.out.ext hR).rowAt g0.1
      rw [g1.2] at c1
      rw [Nat.add_zero, g0.2] at c0
      have q3 : ((n0 : Int) != (n0 : Int)) = false := by simp
      clear g1 g0
      go_wp2_with fail
      go_quiet (fail)
      have HN := Lib.hid (Ext.trans hR (Ext.of_drawn wr nq))
      generalize wr.drewN nq = wt at HN ⊢
      go_wp2_with fail
      exact ⟨⟨i + 1, by omega, by go_num, HN.out⟩, by simp [intOf]; omega⟩
    · obtain rfl : i = k := by omega
      clear hlt
      go_wp2_with fail
      refine (rcopy_any _ E (by rw [HE.out.2.2]; omega) (fun r hr => by
        obtain ⟨p, hp⟩ := List.getElem?_of_mem hr
        have hp2 := (List.getElem?_eq_some_iff.1 hp).1
        have := (Mat.mmul_sh (b := a) (m := n0) XH.out.sh).2 r (by rw [HE.out.1]; exact hr)
        omega) _ (EB.out.ext hR)).mono ?_; rintro e w5 ⟨u, rfl, hU, x5⟩
      obtain ⟨g2, gc2, rfl, hg2⟩ := hU.open1 (by rw [HE.out.2.2]; omega)
      rw [HE.out.2.2] at hU ⊢
      have HU := Lib.hid hU
      have HG2 := Lib.hid hg2
      have X5 := Lib.hid x5
      have XR := Lib.hid (Ext.trans X4.out hR)
      have HLO5 := Lib.hid (HLO4.out.ext hR)
      have EBr := Lib.hid (EB.out.ext hR)
      have HCr := Lib.hid (HCH.out.ext hR)
      clear hU hg2 x5 hR
      go_wp2_with fail
      have hneq := nil_neq
      go_loopw [14, 15, 16] (fun v14 v15 v16 w7 => ∃ (q c : Nat) (bt : Nat → Bool), q ≤ lost.length ∧ v15 = .int .i64 (q : Nat) ∧ v14 = .int .i64 (c : Nat) ∧ c ≤ m + 1 ∧ Hid (RowsOwn w7 wr.heap.size (.slice (some ⟨g2, 0, none⟩) nn gc2) (keepM E bt nn nn) ∧ cnt bt nn + c = nn ∧ (∀ p, p < nn → bt p = false → w7.cell? ⟨g2, p, none⟩ = some (.slice none 0 0)) ∧ Ext wr w7)) (fun _ v15 _ _ => (lost.length - intOf v15).toNat)
      case atStart => exact ⟨0, 0, fun _ => true, by omega, rfl, rfl, by omega, Lib.hid ⟨by rw [keepM_all E HE.out.2.2]; exact HU.out, by rw [cnt_all]; rfl, fun p _ h => (Bool.noConfusion h), X5.out⟩⟩
      case round =>
        obtain ⟨q, c, bt, hq, rfl, rfl, hc, hR⟩ := hrel
        rename World => w7
        by_cases hlt : q < lost.length ∧ c ≤ m
        · obtain ⟨hl1, hl2⟩ := hlt
          have hl1' : (q : Int) < (lost.length : Int) := by omega
          have hl2' : (c : Int) ≤ (m : Int) := by omega
          obtain ⟨lb, lo, rfl, d1⟩ := (HLO5.out.ext hR.out.2.2.2).at (bvs_get hl1)
          obtain ⟨b, hb⟩ : ∃ b, lost[q] = b := ⟨_, rfl⟩
          rw [hb] at d1
          obtain ⟨z, hz⟩ : ∃ z, b.toNat % nn = z := ⟨_, rfl⟩
          have hzn : z < nn := by rw [← hz]; exact Nat.mod_lt _ nn1
          have ez : (Go.RowKit.wrap64 (b.toNat : Int)).tmod (nn : Int) = (z : Int) := by
            have := b.toNat_lt
            rw [show Go.RowKit.wrap64 (b.toNat : Int) = (b.toNat : Int) from by unfold Go.RowKit.wrap64; omega, ← hz]
            exact (Int.ofNat_tmod _ _).symm
          have q1 : (z : Int) < (nn : Int) := by omega
          have q3 : 0 ≤ (z : Int) := by omega
          have hg := keepM_get E bt (i := nn) hzn
          clear hb hz
          cases hbz : bt z with
          | true =>
            rw [if_pos ⟨hzn, hbz⟩] at hg
            obtain ⟨sa, sc, c1, hb1⟩ := hR.out.1.brows.rowAt hg
            have hlen : (E.getD z []).length = n0 := by
              rw [← HE.out.1]
              exact (Mat.mmul_sh (b := a) (m := n0) XH.out.sh).row hzn
            rw [hlen] at c1 hb1
            obtain ⟨eb, eo, rfl⟩ := hb1.open1 (by omega)
            rw [Nat.zero_add] at c1
            have u2 := (hR.out.1.spot (i := z) (by rw [keepM_len]; exact hzn)).2
            have hst := hR.out.1.set (Cells.nil w7) (.inl rfl) z
            rw [keepM_drop E bt hzn] at hst
            have hcd := cnt_drop bt z hbz nn
            rw [if_pos hzn] at hcd
            have HN := Lib.hid (show RowsOwn (w7.setCell ⟨g2, z, none⟩ (.slice none 0 0)) wr.heap.size (.slice (some ⟨g2, 0, none⟩) nn gc2) (keepM E (fun p => if p = z then false else bt p) nn nn) ∧ cnt (fun p => if p = z then false else bt p) nn + (c + 1) = nn ∧ (∀ p, p < nn → (if p = z then false else bt p) = false → (w7.setCell ⟨g2, z, none⟩ (.slice none 0 0)).cell? ⟨g2, p, none⟩ = some (.slice none 0 0)) ∧ Ext wr (w7.setCell ⟨g2, z, none⟩ (.slice none 0 0)) from
              ⟨hst, by have := hR.out.2.1; omega, fun p hp hb2 => by
                by_cases e : p = z
                · rw [e]
                  exact World.cell?_setCell_same w7 _ _ c1
                · rw [if_neg e] at hb2
                  have := hR.out.2.2.1 p hp hb2
                  exact (World.cell?_setCell_other w7 _ _ _ (fun h => e (congrArg Addr.off h).symm)).trans this, Below.set hR.out.2.2.2 HG2.out z _⟩)
            clear hg hb1 hlen hst hcd hbz
            go_wp2_with fail
            exact ⟨⟨q + 1, c + 1, fun p => if p = z then false else bt p, by omega, by go_num, by go_num, by omega, HN⟩, by simp [intOf]; omega⟩
          | false =>
            have c1 := hR.out.2.2.1 z hzn hbz
            clear hg hbz
            go_wp2_with fail
            exact ⟨⟨q + 1, c, bt, by omega, by go_num, rfl, hc, hR⟩, by simp [intOf]; omega⟩
        · have hx : (¬ (q : Int) < (lost.length : Int)) ∨ ((q : Int) < (lost.length : Int) ∧ ¬ (c : Int) ≤ (m : Int)) := by omega
          clear hlt
          have SEl : ∀ p, p < nn → (E.getD p []).length = n0 := fun p hp => by
            rw [← HE.out.1]
            exact (Mat.mmul_sh (b := a) (m := n0) XH.out.sh).row hp
          have hidx := keepM_idx E bt n0p SEl
          have hrows := keepM_rows E bt SEl
          have hcnt : (idx (keepM E bt nn nn)).length + c = nn := by rw [hidx]; exact hR.out.2.1
          have SI := Lib.hid (And.intro hrows (And.intro hcnt SEl))
          have HBR := Lib.hid hR.out.1.brows
          have XX := Lib.hid (Ext.trans XR.out hR.out.2.2.2)
          have HC6 := Lib.hid (HCr.out.ext hR.out.2.2.2)
          have EB6 := Lib.hid (EBr.out.ext hR.out.2.2.2)
          clear hidx hrows hcnt SEl hR
          rcases hx with hx | ⟨hx, hy⟩
          all_goals
            go_wp2_with fail
            by_cases c0 : c = nn
            case pos =>
              have hz : ∀ r ∈ keepM E bt nn nn, r.length = 0 := fun r hr => by
                refine Nat.le_zero.1 (Nat.not_lt.1 fun h => ?_)
                obtain ⟨p, hp⟩ := List.getElem?_of_mem hr
                have hp2 := (List.getElem?_eq_some_iff.1 hp).1
                have : p ∈ idx (keepM E bt nn nn) := idx_mem.2 ⟨hp2, by rw [Mat.getD_lt hp2 [], (List.getElem?_eq_some_iff.1 hp).2]; exact h⟩
                have h2 := SI.out.2.1
                have h3 : (idx (keepM E bt nn nn)).length = 0 := by omega
                rw [List.length_eq_zero_iff.1 h3] at this
                cases this
              have q7 : ((c : Int) == (nn : Int)) = true := beq_iff_eq.2 (by omega)
              refine (reb_zero cb i nn X _ (keepM E bt nn nn) XH.out (keepM_len _ _ _ _) hz _ HC6.out HBR.out).mono ?_; rintro e w8 ⟨u, rfl, hU, x8⟩
              obtain ⟨ua, uc, rfl⟩ := hU.form
              rw [List.length_replicate]
              have X8 := Lib.hid (Ext.trans XX.out x8)
              clear hU x8 hz c0
              go_wp2_with fail
              go_ret
              exact ⟨rfl, X8.out⟩
            have q7 : ((c : Int) == (nn : Int)) = false := beq_eq_false_iff_ne.2 (by omega)
            by_cases ck : m < c
            case pos =>
              have hne : idx (keepM E bt nn nn) ≠ [] := fun e => by
                have := SI.out.2.1
                rw [e] at this
                exact c0 (by simpa using this)
              refine (reb_short cb i nn X _ (keepM E bt nn nn) n0 (by omega) n0p XH.out (keepM_len _ _ _ _) SI.out.1 hne (by have := SI.out.2.1; omega) _ HC6.out HBR.out).mono ?_; rintro e w8 ⟨rfl, x8⟩
              have X8 := Lib.hid (Ext.trans XX.out x8)
              have ck' : (m : Int) < (c : Int) := by omega
              clear x8 hne c0 ck
              go_wp2_with fail
              go_ret
              exact ⟨rfl, X8.out⟩
          · have ckl : i ≤ (idx (keepM E bt nn nn)).length := by have := SI.out.2.1; omega
            obtain ⟨Z, hZ⟩ := Mat.sys_pick (n := i) (m := m) (by have := HE.out.2.1; omega) HXs.out ((idx (keepM E bt nn nn)).take i) (fun p hp => by
              have := (idx_mem.1 (List.mem_of_mem_take hp)).1
              rw [keepM_len] at this
              rw [HE.out.2.1]; exact this) (by rw [List.length_take]; omega) (List.Sublist.nodup (List.take_sublist _ _) (idx_nodup _))
            have hov := over_back (X := X) (S := keepM E bt nn nn) (D := a) (n := n0) XH.out SAh.out (keepM_len _ _ _ _) (fun p hp => by
              rw [keepM_getD E bt hp, HE.out.1]
              split
              · exact .inr rfl
              · exact .inl rfl) ckl hZ
            rw [HE.out.1] at hov
            refine (reb_any cb i nn X Z _ (keepM E bt nn nn) n0 (by omega) n0p XH.out (keepM_len _ _ _ _) SI.out.1 ckl hZ _ HC6.out HBR.out).mono ?_; rintro e w8 ⟨u, rfl, hU, x8⟩
            rw [hov] at hU
            obtain ⟨ua, uc, rfl⟩ := hU.form
            rw [HE.out.2.2] at hU ⊢
            have UB := Lib.hid hU
            have EB8 := Lib.hid (EB6.out.ext x8)
            have HC8 := Lib.hid (HC6.out.ext x8)
            have X8 := Lib.hid (Ext.trans XX.out x8)
            have ck' : ¬ (m : Int) < (c : Int) := by omega
            clear hU x8 hov hZ ckl c0 ck
            go_wp2_with fail
            have hvd : true = true ↔ Mat.mmul X (E.take i) n0 = E := ⟨fun _ => by rw [← HE.out.1, XH.out.enc_take SAh.out], fun _ => rfl⟩
            have hEs : Mat.Sh E nn n0 := by rw [← HE.out.1]; exact Mat.mmul_sh (b := a) (m := n0) XH.out.sh
            refine (ver_any cb i nn X _ E n0 (by omega) true XH.out hEs hvd _ HC8.out EB8.out).mono ?_; rintro e w9 ⟨rfl, x9⟩
            have X9 := Lib.hid (Ext.trans X8.out x9)
            have UB9 := Lib.hid (UB.out.ext x9)
            have EB9 := Lib.hid (EB8.out.ext x9)
            clear x9 hvd hEs
            go_wp2_with fail
            refine (rsame_eq2 _ _ E (by rw [HE.out.2.2]; unfold maxLen; omega) _ UB9.out EB9.out).mono ?_; rintro e wa ⟨rfl, xa⟩
            have XA := Lib.hid (Ext.trans X9.out xa)
            clear xa
            go_wp2_with fail
            go_ret
            exact ⟨rfl, XA.out⟩
          · exfalso; omega
end Go.Proofs.Ytdmdcgcmappliaa
