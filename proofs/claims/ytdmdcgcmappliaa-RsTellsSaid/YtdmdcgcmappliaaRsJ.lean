/-
  RsAny.
-/
import Derived.Test.YtdmdcgcmappliaaRsG
import Derived.Test.YtdmdcgcmappliaaMxS
namespace Go.Proofs.Ytdmdcgcmappliaa
open Go.RowKit Gf
set_option maxRecDepth 100000
set_option maxHeartbeats 4000000
attribute [local go_sem] min_int2 max_int2 bstr_toList

/-- What is kept of the first i rows. -/
def keepM (E : Mat.M) (bt : Nat → Bool) (nn i : Nat) : Mat.M := (List.range nn).map fun p => if p < i ∧ bt p = true then E.getD p [] else []
def cnt (bt : Nat → Bool) (i : Nat) : Nat := ((List.range i).filter bt).length
theorem cnt_succ (bt : Nat → Bool) (i : Nat) : cnt bt (i + 1) = if bt i = true then cnt bt i + 1 else cnt bt i := by
  unfold cnt
  rw [List.range_succ, List.filter_append, List.length_append, List.filter_cons]
  split <;> simp
theorem keepM_len (E : Mat.M) (bt : Nat → Bool) (nn i : Nat) : (keepM E bt nn i).length = nn := by simp [keepM]
theorem keepM_get (E : Mat.M) (bt : Nat → Bool) {nn i p : Nat} (hp : p < nn) : (keepM E bt nn i)[p]? = some (if p < i ∧ bt p = true then E.getD p [] else []) := by
  unfold keepM
  rw [List.getElem?_map, List.getElem?_range hp]
  rfl
theorem keepM_zero (E : Mat.M) (bt : Nat → Bool) (nn : Nat) : keepM E bt nn 0 = List.replicate nn [] := by
  apply List.ext_getElem?
  intro p
  by_cases hp : p < nn
  · rw [keepM_get E bt hp, if_neg (by omega), List.getElem?_replicate, if_pos hp]
  · rw [List.getElem?_eq_none (by rw [keepM_len]; omega), List.getElem?_eq_none (by simp; omega)]
theorem keepM_yes (E : Mat.M) (bt : Nat → Bool) {nn i : Nat} (hi : i < nn) (h : bt i = true) : (keepM E bt nn i).set i (E.getD i []) = keepM E bt nn (i + 1) := by
  apply List.ext_getElem?
  intro p
  rw [List.getElem?_set]
  by_cases hp : p < nn
  · rw [keepM_get E bt (i := i + 1) hp]
    by_cases e : i = p
    · rw [if_pos e, if_pos (by rw [keepM_len]; exact hi), if_pos ⟨by omega, by rw [← e]; exact h⟩, e]
    · rw [if_neg e, keepM_get E bt (i := i) hp]
      by_cases h2 : p < i ∧ bt p = true
      · rw [if_pos h2, if_pos ⟨by omega, h2.2⟩]
      · rw [if_neg h2, if_neg (fun h3 => h2 ⟨by omega, h3.2⟩)]
  · rw [if_neg (by omega), List.getElem?_eq_none (by rw [keepM_len]; omega), List.getElem?_eq_none (by rw [keepM_len]; omega)]
theorem keepM_no (E : Mat.M) (bt : Nat → Bool) {nn i : Nat} (h : bt i = false) : keepM E bt nn (i + 1) = keepM E bt nn i := by
  unfold keepM
  apply List.map_congr_left
  intro p hp
  by_cases h2 : p < i ∧ bt p = true
  · rw [if_pos h2, if_pos ⟨by omega, h2.2⟩]
  · rw [if_neg h2, if_neg]
    rintro ⟨h3, h4⟩
    by_cases e : p = i
    · subst e; rw [h] at h4; cases h4
    · exact h2 ⟨by omega, h4⟩
theorem keepM_getD (E : Mat.M) (bt : Nat → Bool) {nn p : Nat} (hp : p < nn) : (keepM E bt nn nn).getD p [] = if bt p = true then E.getD p [] else [] := by
  have h := keepM_get E bt (i := nn) hp
  rw [List.getD_eq_getElem?_getD, h]
  simp only [Option.getD_some]
  by_cases hb : bt p = true
  · rw [if_pos ⟨hp, hb⟩, if_pos hb]
  · rw [if_neg (fun h => hb h.2), if_neg hb]
theorem keepM_idx (E : Mat.M) (bt : Nat → Bool) {nn n : Nat} (hn : 0 < n) (hE : ∀ p, p < nn → (E.getD p []).length = n) : idx (keepM E bt nn nn) = (List.range nn).filter bt := by
  unfold idx
  rw [keepM_len]
  apply List.filter_congr
  intro p hp
  have hp' := List.mem_range.1 hp
  rw [keepM_getD E bt hp']
  by_cases hb : bt p = true
  · rw [if_pos hb, hE p hp', hb]
    exact decide_eq_true hn
  · rw [if_neg hb]
    have : bt p = false := by simpa using hb
    rw [this]
    rfl
theorem keepM_rows (E : Mat.M) (bt : Nat → Bool) {nn n : Nat} (hE : ∀ p, p < nn → (E.getD p []).length = n) : ∀ r ∈ keepM E bt nn nn, r.length = 0 ∨ r.length = n := by
  intro r hr
  obtain ⟨p, hp⟩ := List.getElem?_of_mem hr
  have hp2 := (List.getElem?_eq_some_iff.1 hp).1
  have hp3 := (List.getElem?_eq_some_iff.1 hp).2
  have hp4 := hp2
  rw [keepM_len] at hp2
  have h := keepM_getD E bt hp2
  rw [Mat.getD_lt hp4 [], hp3] at h
  rw [h]
  split
  · exact .inr (hE p hp2)
  · exact .inl rfl
theorem rsany_any (w : World) (va : Value) (a : Mat.M) (ha : BRows w va a) (la : a.length ≤ 140737488351232) (ra : ∀ l ∈ a, l.length ≤ 140737488351232) (x : UInt8) (kp : Nat) (_hkp : kp < 4294967296) :
    Calls Try.prog 10 #[va, bv x, .int .u32 kp] w fun e w' => e = .returned (.bool true) ∧ Ext w w' := by
  obtain ⟨aa, ac, rfl⟩ := ha.form
  have HA := Lib.hid ha
  have HL := Lib.hid (And.intro ra la)
  clear ha la ra
  go_enter Try.func10, Try.ntmps10
  go_wp2_with fail
  refine (rsawake_any _).mono ?_; rintro e w1 ⟨rfl, x1⟩
  have HA1 := Lib.hid (HA.out.ext x1)
  have X1 := Lib.hid x1
  clear x1 HA
  go_wp2_with fail
  refine (small3_any _ a HL.out.1 HL.out.2 _ HA1.out).mono ?_; rintro e w' ⟨d1, rfl, S1, rfl⟩
  cases d1
  case false =>
    go_wp2_with fail
    go_ret
    exact ⟨rfl, X1.out⟩
  have SA := Lib.hid (S1.out rfl)
  clear S1
  by_cases h0 : a.length = 0
  case pos =>
    have q0 : ((a.length : Int) == 0) = true := beq_iff_eq.2 (by omega)
    clear h0
    go_wp2_with fail
    go_ret
    exact ⟨rfl, X1.out⟩
  have q0 : ((a.length : Int) == 0) = false := beq_eq_false_iff_ne.2 (by omega)
  by_cases h30 : 12 < a.length
  case pos =>
    have q1 : (12 : Int) < (a.length : Int) := by omega
    clear h0 h30
    go_wp2_with fail
    go_ret
    exact ⟨rfl, X1.out⟩
  have q1 : (a.length : Int) ≤ 12 := by omega
  obtain ⟨k, hk⟩ : ∃ k, a.length = k := ⟨_, rfl⟩
  obtain ⟨n0, hn0⟩ : ∃ n0, (a.getD 0 []).length = n0 := ⟨_, rfl⟩
  have h0a : 0 < a.length := by omega
  obtain ⟨ab, ao, ra0, rc0, rfl, c0, -⟩ := HA1.out.at (List.getElem?_eq_getElem h0a)
  rw [Nat.add_zero, ← Mat.getD_lt h0a [], hn0] at c0
  rw [hk] at HA1 q0 q1 h0 h30 ⊢
  have HK := Lib.hid hk
  have N0 := Lib.hid hn0
  have n0b : n0 ≤ 4000 := by
    rw [← hn0, Mat.getD_lt h0a []]
    exact SA.out.2 _ (List.getElem_mem _)
  obtain ⟨m, hm⟩ : ∃ m : Nat, 1 + x.toNat % 10 = m := ⟨_, rfl⟩
  have f1 := Lib.hid (wrap_mod x 10 m (by omega) (by omega) hm)
  have m1 : 1 ≤ m := by omega
  have m2 : m ≤ 10 := by omega
  have k1 : 1 ≤ k := by omega
  have k2 : k ≤ 12 := by omega
  clear hk h0 h30 hm hn0 h0a
  by_cases hn : n0 = 0
  case pos =>
    have q5 : ((n0 : Int) == 0) = true := beq_iff_eq.2 (by omega)
    clear hn
    go_wp2_with fail
    go_ret
    exact ⟨rfl, X1.out⟩
  have q5 : ((n0 : Int) == 0) = false := beq_eq_false_iff_ne.2 (by omega)
  have n0p : 0 < n0 := by omega
  clear hn
  go_wp2_with fail
  rw [show Go.RowKit.wrap64 (1 + (Go.RowKit.wrap64 (x.toNat : Int)).tmod 10) = (m : Int) from f1.out]
  clear f1
  refine (rsnew_any k m k1 m1 (by omega) _).mono ?_; rintro e w2 ⟨cb, X, hX, rfl, hC, x2⟩
  have HX := Lib.hid (CodeMat.of_sys k1 m1 (by omega) hX)
  have HXs := Lib.hid hX
  have HC := Lib.hid hC
  have HA2 := Lib.hid (HA1.out.ext x2)
  have X2 := Lib.hid (Ext.trans X1.out x2)
  clear x2 hC hX HA1 c0 q0 q1 q5
  go_wp2_with fail
  by_cases hev : ∀ r ∈ a, r.length = n0
  case neg =>
    have HEV := Lib.hid hev
    clear hev
    refine (enc_no cb k (k + m) X _ a k1 (by rw [HK.out]; omega) (fun h => HEV.out (by rw [← N0.out]; exact h.2)) _ HC.out HA2.out).mono ?_; rintro e w' ⟨rfl, rfl⟩
    go_wp2_with fail
    go_ret
    exact ⟨rfl, X2.out⟩
  have SAh := Lib.hid (show Mat.Sh a k n0 from ⟨HK.out, hev⟩)
  clear hev
  refine (enc_any cb k (k + m) X _ a n0 (by omega) HX.out SAh.out _ HC.out HA2.out).mono ?_; rintro e w4 ⟨ea, rfl, hEA, x4⟩
  obtain ⟨nn, hnn⟩ : ∃ nn, k + m = nn := ⟨_, rfl⟩
  have HXn := HX.out
  have HC4 := HC.out.ext x4
  rw [hnn] at HXn HC4
  have l1 : (Mat.mmul X a n0).length = nn := (Mat.mmul_sh (b := a) (m := n0) HXn.sh).1
  obtain ⟨E, hE⟩ : ∃ E, Mat.mmul X a n0 = E := ⟨_, rfl⟩
  rw [hE] at hEA l1
  obtain ⟨g, gc, rfl, -⟩ := hEA.open1 (by rw [l1]; omega)
  rw [l1] at hEA ⊢
  have EB := Lib.hid hEA.brows
  have XH := Lib.hid HXn
  have HCH := Lib.hid HC4
  have HE := Lib.hid (And.intro hE (And.intro hnn l1))
  have X4 := Lib.hid (Ext.trans X2.out x4)
  have nnb : nn ≤ 22 := by omega
  have nn1 : 1 ≤ nn := by omega
  have q9 : ((nn : Int) != (nn : Int)) = false := by simp
  have hmk : ∀ w, (Instr.makeSlice 22 (.int .i64 (nn : Int)) (.int .i64 (nn : Int))).run Try.prog w = .ok (.slice (some ⟨w.heap.size, 0, none⟩) nn nn) (w.alloc (.cells (Array.replicate nn (.slice none 0 0)) 34)) :=
    make_row (P := Try.prog) 22 34 (.slice none 0 0) 24 nn Try.underlying22 info_bytes rfl (by omega) (by omega)
  clear HXn HC4 hE hEA l1 hnn x4 HX HC HA2
  go_wp2_with fail
  refine (rsN_any cb k nn X _ HCH.out).mono ?_; rintro e w' ⟨rfl, rfl⟩
  go_wp2_with fail
  refine (rsN_any cb k nn X _ HCH.out).mono ?_; rintro e w' ⟨rfl, rfl⟩
  go_wp2_with fail
  have M0 : Hid (MR (w4.alloc (.cells (Array.replicate nn (.slice none 0 0)) 34)) w4.heap.size w4.heap.size (List.replicate nn [])) := Lib.hid (MR.start w4 _ nn (Nat.le_refl _))
  have E0 : Hid (Ext w4 (w4.alloc (.cells (Array.replicate nn (.slice none 0 0)) 34))) := Lib.hid ((Ext.refl w4).alloc (Nat.le_refl _) _)
  generalize w4.alloc (.cells (Array.replicate nn (.slice none 0 0)) 34) = w5 at M0 E0 ⊢
  obtain ⟨sb, hsb⟩ : ∃ sb, w4.heap.size = sb := ⟨_, rfl⟩
  rw [hsb] at M0 ⊢
  have HSB := Lib.hid hsb
  clear hsb hmk
  obtain ⟨bt, hbt⟩ : ∃ bt : Nat → Bool, bt = fun p => (bits BinOp.and IntKind.u32 ((kp : Int) / 2 ^ p) 1 == 1) := ⟨_, rfl⟩
  have HBT := Lib.hid hbt
  clear hbt
  go_loopw [12, 13] (fun v12 v13 wr => ∃ (i c : Nat), i ≤ nn ∧ v13 = .int .i64 (i : Nat) ∧ v12 = .int .i64 (c : Nat) ∧ Hid (c = cnt bt i ∧ MR wr sb sb (keepM E bt nn i) ∧ Ext w4 wr)) (fun _ v13 _ => (nn - intOf v13).toNat)
  case atStart => exact ⟨0, 0, by omega, rfl, rfl, Lib.hid ⟨rfl, by rw [keepM_zero]; exact M0.out, E0.out⟩⟩
  case round =>
    obtain ⟨i, c, hi, rfl, rfl, hR⟩ := hrel
    by_cases hlt : i < nn
    · have hlt' : (i : Int) < (nn : Int) := by omega
      have cb0 : c ≤ 22 := by
        rw [hR.out.1]
        unfold cnt
        exact Nat.le_trans (List.length_filter_le _ _) (by simp; omega)
      cases hb : bt i with
      | true =>
        have hc : (bits BinOp.and IntKind.u32 ((kp : Int) / 2 ^ i) 1 == 1) = true := by
          have := HBT.out
          rw [this] at hb
          exact hb
        have hcs := cnt_succ bt i
        rw [if_pos hb, ← hR.out.1] at hcs
        obtain ⟨r1, r2⟩ : E[i]? = some (E.getD i []) ∧ True := ⟨by rw [List.getElem?_eq_getElem (by rw [HE.out.2.2]; exact hlt), Mat.getD_lt], trivial⟩
        obtain ⟨qa, qc, c1, b1⟩ := (EB.out.ext hR.out.2.2).rowAt r1
        rw [Nat.zero_add] at c1
        obtain ⟨sa, sc, c2, -⟩ := hR.out.2.1.at (keepM_get E bt (i := i) hlt)
        have u2 := hR.out.2.1.unfrozen i
        have hst := hR.out.2.1.set b1 i
        rw [keepM_yes E bt hlt hb] at hst
        have hbb := Below.set hR.out.2.2 (show w4.heap.size ≤ sb from by rw [HSB.out]; exact Nat.le_refl _) i (.slice qa (E.getD i []).length qc)
        have HN := Lib.hid (And.intro hcs.symm (And.intro hst hbb))
        obtain ⟨len, hlen⟩ : ∃ len, (E.getD i []).length = len := ⟨_, rfl⟩
        rw [hlen] at c1 HN
        obtain ⟨len2, hlen2⟩ : ∃ len2, (if i < i ∧ bt i = true then E.getD i [] else []).length = len2 := ⟨_, rfl⟩
        rw [hlen2] at c2
        clear hb hcs r1 r2 b1 hst hbb hlen hlen2
        go_wp2_with fail
        refine (rsN_any cb k nn X _ (HCH.out.ext hR.out.2.2)).mono ?_; rintro e w' ⟨rfl, rfl⟩
        go_wp2_with fail
        exact ⟨⟨i + 1, c + 1, by omega, by go_num, by go_num, HN⟩, by simp [intOf]; omega⟩
      | false =>
        have hc : (bits BinOp.and IntKind.u32 ((kp : Int) / 2 ^ i) 1 == 1) = false := by
          have := HBT.out
          rw [this] at hb
          exact hb
        have hcs := cnt_succ bt i
        rw [if_neg (by rw [hb]; exact Bool.false_ne_true), ← hR.out.1] at hcs
        have HN := Lib.hid (And.intro hcs.symm (And.intro (show MR wr sb sb (keepM E bt nn (i + 1)) from by rw [keepM_no E bt hb]; exact hR.out.2.1) hR.out.2.2))
        clear hb hcs
        go_wp2_with fail
        refine (rsN_any cb k nn X _ (HCH.out.ext hR.out.2.2)).mono ?_; rintro e w' ⟨rfl, rfl⟩
        go_wp2_with fail
        exact ⟨⟨i + 1, c, by omega, by go_num, rfl, HN⟩, by simp [intOf]; omega⟩
    · obtain rfl : i = nn := by omega
      clear hlt
      go_wp2_with fail
      refine (rsN_any cb k i X _ (HCH.out.ext hR.out.2.2)).mono ?_; rintro e w' ⟨rfl, rfl⟩
      go_wp2_with fail
      have SEl : ∀ p, p < i → (E.getD p []).length = n0 := fun p hp => by
        rw [← HE.out.1]
        exact (Mat.mmul_sh (b := a) (m := n0) XH.out.sh).row hp
      have hidx := keepM_idx E bt n0p SEl
      have hrows := keepM_rows E bt SEl
      have hcnt : (idx (keepM E bt i i)).length = c := by rw [hidx, hR.out.1]; rfl
      have SI := Lib.hid (And.intro hrows (And.intro hcnt SEl))
      have HBR := Lib.hid (hR.out.2.1.brows (n := i) (by rw [keepM_len]))
      have cb0 : c ≤ 22 := by
        rw [← hcnt, hidx]
        exact Nat.le_trans (List.length_filter_le _ _) (by simp; omega)
      have XX := Lib.hid (Ext.trans X4.out hR.out.2.2)
      have HC6 := Lib.hid (HCH.out.ext hR.out.2.2)
      have EB6 := Lib.hid (EB.out.ext hR.out.2.2)
      clear hidx hrows hcnt SEl hR hi
      by_cases c0 : c = 0
      case pos =>
        have hz : ∀ r ∈ keepM E bt i i, r.length = 0 := fun r hr => by
          refine Nat.le_zero.1 (Nat.not_lt.1 fun h => ?_)
          obtain ⟨p, hp⟩ := List.getElem?_of_mem hr
          have hp2 := (List.getElem?_eq_some_iff.1 hp).1
          have : p ∈ idx (keepM E bt i i) := idx_mem.2 ⟨hp2, by rw [Mat.getD_lt hp2 [], (List.getElem?_eq_some_iff.1 hp).2]; exact h⟩
          have h2 := SI.out.2.1
          rw [c0] at h2
          rw [List.length_eq_zero_iff.1 h2] at this
          cases this
        subst c0
        refine (reb_zero cb k i X _ (keepM E bt i i) XH.out (keepM_len _ _ _ _) hz _ HC6.out HBR.out).mono ?_; rintro e w7 ⟨u, rfl, hU, x7⟩
        obtain ⟨ua, uc, rfl⟩ := hU.form
        rw [List.length_replicate]
        have X7 := Lib.hid (Ext.trans XX.out x7)
        have HC7 := Lib.hid (HC6.out.ext x7)
        clear hU x7 hz
        go_wp2_with fail
        refine (rsN_any cb k i X _ HC7.out).mono ?_; rintro e w' ⟨rfl, rfl⟩
        go_wp2_with fail
        go_ret
        exact ⟨rfl, X7.out⟩
      have q7 : ((c : Int) == 0) = false := beq_eq_false_iff_ne.2 (by omega)
      by_cases ck : c < k
      case pos =>
        have hne : idx (keepM E bt i i) ≠ [] := fun e => by
          have := SI.out.2.1
          rw [e] at this
          exact c0 this.symm
        refine (reb_short cb k i X _ (keepM E bt i i) n0 (by omega) n0p XH.out (keepM_len _ _ _ _) SI.out.1 hne (by rw [SI.out.2.1]; exact ck) _ HC6.out HBR.out).mono ?_; rintro e w7 ⟨rfl, x7⟩
        have X7 := Lib.hid (Ext.trans XX.out x7)
        have ck' : (c : Int) < (k : Int) := by omega
        clear x7 hne c0 ck
        go_wp2_with fail
        go_ret
        exact ⟨rfl, X7.out⟩
      have ckl : k ≤ (idx (keepM E bt i i)).length := by rw [SI.out.2.1]; omega
      obtain ⟨Z, hZ⟩ := Mat.sys_pick (n := k) (m := m) (by have := HE.out.2.1; omega) HXs.out ((idx (keepM E bt i i)).take k) (fun p hp => by
        have := (idx_mem.1 (List.mem_of_mem_take hp)).1
        rw [keepM_len] at this
        rw [HE.out.2.1]; exact this) (by rw [List.length_take]; omega) (List.Sublist.nodup (List.take_sublist _ _) (idx_nodup _))
      have hov := over_back (X := X) (S := keepM E bt i i) (D := a) (n := n0) XH.out SAh.out (keepM_len _ _ _ _) (fun p hp => by
        rw [keepM_getD E bt hp, HE.out.1]
        split
        · exact .inr rfl
        · exact .inl rfl) ckl hZ
      rw [HE.out.1] at hov
      refine (reb_any cb k i X Z _ (keepM E bt i i) n0 (by omega) n0p XH.out (keepM_len _ _ _ _) SI.out.1 ckl hZ _ HC6.out HBR.out).mono ?_; rintro e w7 ⟨u, rfl, hU, x7⟩
      rw [hov] at hU
      have UB := Lib.hid hU
      have EB7 := Lib.hid (EB6.out.ext x7)
      have X7 := Lib.hid (Ext.trans XX.out x7)
      have ck' : ¬ (c : Int) < (k : Int) := by omega
      clear hU x7 hov hZ ckl c0 ck
      go_wp2_with fail
      refine (rsame_eq2 _ _ E (by rw [HE.out.2.2]; unfold maxLen; omega) _ UB.out EB7.out).mono ?_; rintro e w8 ⟨rfl, x8⟩
      have X8 := Lib.hid (Ext.trans X7.out x8)
      clear x8
      go_wp2_with fail
      go_ret
      exact ⟨rfl, X8.out⟩
end Go.Proofs.Ytdmdcgcmappliaa
