/-
  The reference's Good, Square, MulMatrix.
  The reference's MulMatrix.
  The reference's Invert.
  The reference's Systematic.
-/
import Derived.Test.YthkbbcdnmdjhdaaGreatA5
import Derived.Test.YthkbbcdnmdjhdaaGreatA3
import Derived.Test.YthkbbcdnmdjhdaaGreatA4
import Derived.Test.YthkbbcdnmdjhdaaGreatA6
import Derived.StillTailTactics
/-! XRefB: The reference's Good, Square, MulMatrix. -/
namespace Go.Proofs.YthkbbcdnmdjhdaaGreat
open Go.RowKit Gf
set_option maxRecDepth 100000
set_option maxHeartbeats 4000000
attribute [local go_sem] min_int2 max_int2

theorem rgood_any (v : Value) (ls : Mat.M) (d : Bool) (hd : d = true ↔ Mat.Good ls) (w : World) (hV : BRows w v ls) :
    Calls Tryz.prog 177 #[v] w fun e w' => e = .returned (.bool d) ∧ Ext w w' := by
  obtain ⟨a, cap, rfl⟩ := hV.form
  rw [Mat.good_iff] at hd
  have HD := Lib.hid hd
  have HV := Lib.hid hV
  clear hd hV
  go_enter Tryz.func177, Tryz.ntmps177
  by_cases h1 : ls.length < 1
  case pos =>
    have q : (ls.length : Int) < 1 := by omega
    have hdf : d = false := by
      cases d
      · rfl
      · have := HD.out.1 rfl; omega
    subst hdf
    go_wp2_with fail
    go_ret
    exact ⟨rfl, Ext.refl _⟩
  by_cases h2 : 255 < ls.length
  case pos =>
    have q : 1 ≤ (ls.length : Int) := by omega
    have q2 : (255 : Int) < (ls.length : Int) := by omega
    have hdf : d = false := by
      cases d
      · rfl
      · have := HD.out.1 rfl; omega
    subst hdf
    go_wp2_with fail
    go_ret
    exact ⟨rfl, Ext.refl _⟩
  obtain ⟨k, hk⟩ : ∃ k, ls.length = k := ⟨_, rfl⟩
  have h0 : 0 < ls.length := by omega
  obtain ⟨n0, hn0⟩ : ∃ n0, (ls.getD 0 []).length = n0 := ⟨_, rfl⟩
  obtain ⟨ab, ao, ra0, rc0, rfl, c0, -⟩ := HV.out.at (List.getElem?_eq_getElem h0)
  rw [Nat.add_zero, ← Mat.getD_lt h0 [], hn0] at c0
  rw [hk] at HV h1 h2 ⊢
  have HK := Lib.hid hk
  have N0 := Lib.hid hn0
  have q1 : 1 ≤ (k : Int) := by omega
  have q2 : (k : Int) ≤ 255 := by omega
  clear hk h0 hn0
  by_cases h3 : n0 < 1
  case pos =>
    have q : (n0 : Int) < 1 := by omega
    have hdf : d = false := by
      cases d
      · rfl
      · have := HD.out.1 rfl; have := N0.out; omega
    subst hdf
    go_wp2_with fail
    go_ret
    exact ⟨rfl, Ext.refl _⟩
  by_cases h4 : 255 < n0
  case pos =>
    have q : 1 ≤ (n0 : Int) := by omega
    have q2 : (255 : Int) < (n0 : Int) := by omega
    have hdf : d = false := by
      cases d
      · rfl
      · have := HD.out.1 rfl; have := N0.out; omega
    subst hdf
    go_wp2_with fail
    go_ret
    exact ⟨rfl, Ext.refl _⟩
  have q3 : 1 ≤ (n0 : Int) := by omega
  have q4 : (n0 : Int) ≤ 255 := by omega
  go_wp2_with fail
  clear c0
  go_loopw [3] (fun v3 wr => ∃ i : Nat, i ≤ k ∧ v3 = .int .i64 (i : Nat) ∧ Hid ((∀ j, j < i → (ls.getD j []).length = n0) ∧ Ext w wr)) (fun v3 _ => (k - intOf v3).toNat)
  case atStart => exact ⟨0, by omega, rfl, Lib.hid ⟨fun j h => by omega, Ext.refl _⟩⟩
  case round =>
    obtain ⟨i, hi, rfl, hR⟩ := hrel
    by_cases hlt : i < k
    · have hlt' : (i : Int) < (k : Int) := by omega
      have hia : i < ls.length := by rw [HK.out]; exact hlt
      have h0a : 0 < ls.length := by rw [HK.out]; omega
      obtain ⟨qa, qc, c1, -⟩ := (HV.out.ext hR.out.2).rowAt (List.getElem?_eq_getElem hia)
      obtain ⟨ra0, rc0, c0, -⟩ := (HV.out.ext hR.out.2).rowAt (List.getElem?_eq_getElem h0a)
      rw [Nat.add_zero, ← Mat.getD_lt h0a [], N0.out] at c0
      obtain ⟨p, hp⟩ : ∃ p, ls[i].length = p := ⟨_, rfl⟩
      rw [hp] at c1
      have HP := Lib.hid (show (ls.getD i []).length = p from by rw [Mat.getD_lt hia []]; exact hp)
      have HR2 : Hid (ls.getD i [] ∈ ls) := Lib.hid (by rw [Mat.getD_lt hia []]; exact List.getElem_mem _)
      clear hp hia h0a
      by_cases e1 : p = n0
      · have q3 : ((p : Int) != (n0 : Int)) = false := (bne_len _ _).trans (decide_eq_false (fun h => h e1))
        have E1 := Lib.hid e1
        clear e1
        go_wp2_with fail
        go_quiet (fail)
        have HN := Lib.hid (show (∀ j, j < i + 1 → (ls.getD j []).length = n0) ∧ Ext w (wr.drewN nq) from ⟨fun j hj => by
          by_cases e : j = i
          · subst e; rw [HP.out, E1.out]
          · exact hR.out.1 j (by omega), Ext.trans hR.out.2 (Ext.of_drawn _ _)⟩)
        generalize wr.drewN nq = wt at HN ⊢
        go_wp2_with fail
        exact ⟨⟨i + 1, by omega, by go_num, HN⟩, by simp [intOf]; omega⟩
      · have q3 : ((p : Int) != (n0 : Int)) = true := (bne_len _ _).trans (decide_eq_true e1)
        have hdf : d = false := by
          cases d
          · rfl
          · have h5 := (HD.out.1 rfl).2.2.2.2 _ HR2.out
            rw [HP.out, N0.out] at h5
            exact absurd h5 e1
        subst hdf
        clear e1
        go_wp2_with fail
        go_quiet (fail)
        have x8 := Lib.hid (Ext.trans hR.out.2 (Ext.of_drawn wr nq))
        generalize wr.drewN nq = wt at x8 ⊢
        go_wp2_with fail
        go_ret
        exact ⟨rfl, x8.out⟩
    · have hdt : d = true := HD.out.2 ⟨by rw [HK.out]; omega, by rw [HK.out]; omega, by rw [N0.out]; omega, by rw [N0.out]; omega, fun r hr => by
        obtain ⟨j, hj⟩ := List.getElem?_of_mem hr
        have hj2 := (List.getElem?_eq_some_iff.1 hj).1
        have h3 := hR.out.1 j (by have := HK.out; omega)
        rw [Mat.getD_lt hj2 [], (List.getElem?_eq_some_iff.1 hj).2] at h3
        rw [h3, N0.out]⟩
      subst hdt
      have x8 := Lib.hid hR.out.2
      clear hR
      go_wp2_with fail
      go_ret
      exact ⟨rfl, x8.out⟩
theorem rsquare_any (v : Value) (ls : Mat.M) (d : Bool) (hd : d = true ↔ ∃ n, 1 ≤ n ∧ n ≤ 255 ∧ Mat.Sh ls n n) (w : World) (hV : BRows w v ls) :
    Calls Tryz.prog 172 #[v] w fun e w' => e = .returned (.bool d) ∧ Ext w w' := by
  obtain ⟨a, cap, rfl⟩ := hV.form
  have HD := Lib.hid hd
  have HV := Lib.hid hV
  clear hd hV
  go_enter Tryz.func172, Tryz.ntmps172
  go_wp2_with fail
  by_cases hg : Mat.Good ls
  case neg =>
    have hdf : d = false := by
      cases d
      · rfl
      · obtain ⟨n, h1, h2, h3⟩ := HD.out.1 rfl
        exact absurd ⟨n, n, h1, h2, h1, h2, h3⟩ hg
    subst hdf
    have HG := Lib.hid hg
    clear hg
    refine (rgood_any _ ls false ⟨(fun h => Bool.noConfusion h), fun h => absurd h HG.out⟩ _ HV.out).mono ?_; rintro e w1 ⟨rfl, x1⟩
    go_wp2_with fail
    go_ret
    exact ⟨rfl, x1⟩
  have HG := Lib.hid hg
  clear hg
  refine (rgood_any _ ls true ⟨fun _ => HG.out, fun _ => rfl⟩ _ HV.out).mono ?_; rintro e w1 ⟨rfl, x1⟩
  have X1 := Lib.hid x1
  obtain ⟨k, hk⟩ : ∃ k, ls.length = k := ⟨_, rfl⟩
  obtain ⟨n0, hn0⟩ : ∃ n0, (ls.getD 0 []).length = n0 := ⟨_, rfl⟩
  have hs := HG.out.sides
  obtain ⟨ab, ao, ra0, rc0, rfl, c0, -⟩ := (HV.out.ext x1).at (List.getElem?_eq_getElem (show 0 < ls.length by omega))
  rw [Nat.add_zero, ← Mat.getD_lt (show 0 < ls.length by omega) [], hn0] at c0
  have hS := hs.2.2.2.2
  rw [hk, hn0] at hS
  have HS := Lib.hid hS
  have k1 : 1 ≤ k ∧ k ≤ 255 := by omega
  rw [hk]
  clear hs x1 hk hn0 hS
  have q : ((k : Int) == (n0 : Int)) = d := by
    cases d with
    | true =>
      obtain ⟨n, h1, h2, h3⟩ := HD.out.1 rfl
      have e1 := h3.1
      have e2 := h3.row (show 0 < n by omega)
      have e3 := HS.out.1
      have e4 := HS.out.row (show 0 < k by omega)
      exact beq_iff_eq.2 (by omega)
    | false =>
      refine beq_eq_false_iff_ne.2 fun h => ?_
      have := HD.out.2 ⟨k, k1.1, k1.2, by have e : n0 = k := by omega
                                          rw [e] at HS; exact HS.out⟩
      cases this
  go_wp2_with fail
  go_ret
  exact ⟨rfl, X1.out⟩
end Go.Proofs.YthkbbcdnmdjhdaaGreat
/-! XRefC: The reference's MulMatrix. -/
namespace Go.Proofs.YthkbbcdnmdjhdaaGreat
open Go.RowKit Gf
set_option maxRecDepth 100000
set_option maxHeartbeats 4000000
attribute [local go_sem] min_int2 max_int2

/-- The first c of the new row, the others of the old one. -/
def mix (new old : List UInt8) (c : Nat) : List UInt8 := new.take c ++ old.drop c
theorem mix_zero (new old : List UInt8) : mix new old 0 = old := rfl
theorem mix_len {new old : List UInt8} (h : new.length = old.length) {c : Nat} (hc : c ≤ old.length) : (mix new old c).length = old.length := by
  unfold mix
  rw [List.length_append, List.length_take, List.length_drop]
  omega
theorem mix_all {new old : List UInt8} (h : new.length = old.length) : mix new old old.length = new := by
  unfold mix
  rw [List.drop_length, List.append_nil, ← h, List.take_length]
theorem mix_at {new old : List UInt8} (h : new.length = old.length) {c : Nat} (hc : c < old.length) : (mix new old c)[c]? = some (old.getD c 0) := by
  unfold mix
  rw [List.getElem?_append_right (by rw [List.length_take]; omega), List.length_take, h, Nat.min_eq_left (by omega), Nat.sub_self, List.getElem?_drop, Nat.add_zero, List.getElem?_eq_getElem hc, Mat.getD_lt hc]
theorem mix_step {new old : List UInt8} (h : new.length = old.length) {c : Nat} (hc : c < old.length) {x : UInt8} (hx : x = new.getD c 0) : (mix new old c).set c x = mix new old (c + 1) := by
  subst hx
  apply List.ext_getElem?
  intro j
  have h1 := mix_len h (Nat.le_of_lt hc)
  rw [List.getElem?_set]
  unfold mix at h1 ⊢
  by_cases e : c = j
  · subst e
    rw [if_pos rfl, if_pos (by rw [h1]; exact hc), List.getElem?_append_left (by rw [List.length_take]; omega), List.getElem?_take, if_pos (by omega), List.getElem?_eq_getElem (by omega), Mat.getD_lt (by omega)]
  · rw [if_neg e]
    by_cases hj : j < c
    · rw [List.getElem?_append_left (by rw [List.length_take]; omega), List.getElem?_append_left (by rw [List.length_take]; omega), List.getElem?_take, List.getElem?_take, if_pos hj, if_pos (by omega)]
    · rw [List.getElem?_append_right (by rw [List.length_take]; omega), List.getElem?_append_right (by rw [List.length_take]; omega), List.length_take, List.length_take, List.getElem?_drop, List.getElem?_drop]
      congr 1
      omega
theorem BRows.entry {w : World} {a : Option Addr} {n cap : Nat} {ls : Mat.M} (h : BRows w (.slice a n cap) ls) {i j k : Nat} (hi : i < ls.length) (hk : (ls.getD i []).length = k) (hj : j < k) :
    ∃ b o rb ro rc, a = some ⟨b, o, none⟩ ∧ w.cell? ⟨b, o + i, none⟩ = some (.slice (some ⟨rb, ro, none⟩) k rc) ∧ w.cell? ⟨rb, ro + j, none⟩ = some (bv (Mat.en ls i j)) := by
  obtain ⟨b, o, ra, rc, e, c1, hb⟩ := h.at (List.getElem?_eq_getElem hi)
  have hl : ls[i].length = k := by rw [← hk, Mat.getD_lt hi []]
  rw [hl] at c1 hb
  obtain ⟨rb, ro, rfl, c2⟩ := hb.at (bvs_get (l := ls[i]) (j := j) (by omega))
  refine ⟨b, o, rb, ro, rc, e, c1, ?_⟩
  unfold Mat.en
  rw [Mat.getD_lt hi [], Mat.getD_lt (by omega : j < ls[i].length) 0]
  exact c2
theorem rmulm_any (va vb : Value) (a b : Mat.M) (n k m : Nat) (hn : 1 ≤ n ∧ n ≤ 255) (hk : 1 ≤ k ∧ k ≤ 255) (hm : 1 ≤ m ∧ m ≤ 255) (ha : Mat.Sh a n k) (hb : Mat.Sh b k m) (w : World) (hA : BRows w va a) (hB : BRows w vb b) :
    Calls Tryz.prog 152 #[va, vb] w fun e w' => ∃ u, e = .returned (.tuple #[u, .bool true]) ∧ RA w' w.heap.size w'.heap.size u (Mat.mmul a b m) ∧ Ext w w' := by
  obtain ⟨aa, ac, rfl⟩ := hA.form
  obtain ⟨ba, bc, rfl⟩ := hB.form
  rw [ha.1] at hA ⊢
  rw [hb.1] at hB ⊢
  obtain ⟨n1, n2⟩ := hn
  obtain ⟨k1, k2⟩ := hk
  obtain ⟨m1, m2⟩ := hm
  have SA := Lib.hid ha
  have SB := Lib.hid hb
  have HA := Lib.hid hA
  have HB := Lib.hid hB
  clear ha hb hA hB
  go_enter Tryz.func152, Tryz.ntmps152
  have hmk := make_byt m (by omega)
  go_wp2_with fail
  refine (rgood_any _ a true ⟨fun _ => ⟨n, k, n1, n2, k1, k2, SA.out⟩, fun _ => rfl⟩ _ HA.out).mono ?_; rintro e w1 ⟨rfl, x1⟩
  have HB1 := Lib.hid (HB.out.ext x1)
  have X1 := Lib.hid x1
  clear x1
  go_wp2_with fail
  refine (rgood_any _ b true ⟨fun _ => ⟨k, m, k1, k2, m1, m2, SB.out⟩, fun _ => rfl⟩ _ HB1.out).mono ?_; rintro e w2 ⟨rfl, x2⟩
  have HB2 := Lib.hid (HB1.out.ext x2)
  have X2 := Lib.hid (Ext.trans X1.out x2)
  have HA2 := Lib.hid (HA.out.ext X2.out)
  clear x2
  have g0 := SA.out.get (show 0 < n by omega)
  obtain ⟨ab, ao, ra0, rc0, rfl, c0, -⟩ := HA2.out.at g0.1
  rw [Nat.add_zero, g0.2] at c0
  have q1 : ((k : Int) != (k : Int)) = false := by simp
  clear g0
  go_wp2_with fail
  clear c0
  go_loopw [6, 7] (fun v6 v7 wr => ∃ (i : Nat) (xa : Option Addr) (xc : Nat), i ≤ n ∧ v7 = .int .i64 (i : Nat) ∧ v6 = .slice xa i xc ∧ Hid (RA wr w.heap.size wr.heap.size (.slice xa i xc) ((Mat.mmul a b m).take i)) ∧ Ext w wr) (fun _ v7 _ => (n - intOf v7).toNat)
  case atStart => exact ⟨0, _, _, by omega, rfl, rfl, Lib.hid (by rw [List.take_zero]; exact RA.nil _ _ _), X2.out⟩
  case round =>
    obtain ⟨i, xa, xc, hi, rfl, rfl, hR, hBr⟩ := hrel
    by_cases hlt : i < n
    · have hlt' : (i : Int) < (n : Int) := by omega
      have g0 := SB.out.get (show 0 < k by omega)
      obtain ⟨bb, bo, rb0, rc0, rfl, d0, -⟩ := (HB.out.ext hBr).at g0.1
      rw [Nat.add_zero, g0.2] at d0
      clear g0
      go_wp2_with fail
      have HAr := Lib.hid (HA.out.ext hBr)
      have HBr := Lib.hid (HB.out.ext hBr)
      have o0 : Own (wr.alloc (.cells (Array.replicate m (.int .u8 0)) 5)) wr.heap.size 5 (.slice (some ⟨wr.heap.size, 0, none⟩) m m) (bvs (List.replicate m 0)) := by
        have h := Own.new wr wr.heap.size 5 (Array.replicate m (.int .u8 0)) (Nat.le_refl _) (by simp [maxLen]; omega)
        have e : (Array.replicate m (Value.int .u8 0)).toList = bvs (List.replicate m 0) := by simp
        rw [e] at h
        simpa using h
      have x5 : Ext wr (wr.alloc (.cells (Array.replicate m (.int .u8 0)) 5)) := (Ext.refl wr).alloc (Nat.le_refl _) _
      generalize wr.alloc (.cells (Array.replicate m (.int .u8 0)) 5) = w5 at o0 x5 ⊢
      obtain ⟨q, hq⟩ : ∃ q, wr.heap.size = q := ⟨_, rfl⟩
      rw [hq] at o0 ⊢
      have HQ := Lib.hid hq
      have O0 := Lib.hid o0
      have X5 := Lib.hid x5
      obtain ⟨r, hr⟩ : ∃ r, a.getD i [] = r := ⟨_, rfl⟩
      have hrl : r.length = k := by rw [← hr]; exact SA.out.row hlt
      have HRL := Lib.hid (And.intro hr hrl)
      clear o0 x5 hq hr hrl d0 hmk
      go_loopw [9] (fun v9 wk => ∃ p : Nat, p ≤ k ∧ v9 = .int .i64 (p : Nat) ∧ Hid (Own wk q 5 (.slice (some ⟨q, 0, none⟩) m m) (bvs (Mat.rowk r b m p)) ∧ Ext wr wk)) (fun v9 _ => (k - intOf v9).toNat)
      case atStart => exact ⟨0, by omega, rfl, Lib.hid ⟨O0.out, X5.out⟩⟩
      case round =>
        obtain ⟨p, hp, rfl, hRk⟩ := hrel
        rename World => wk
        by_cases hltp : p < k
        · have hltp' : (p : Int) < (k : Int) := by omega
          go_wp2_with fail
          go_loopw [10] (fun v10 wc => ∃ c : Nat, c ≤ m ∧ v10 = .int .i64 (c : Nat) ∧ Hid (Own wc q 5 (.slice (some ⟨q, 0, none⟩) m m) (bvs (mix (Mat.rowk r b m (p + 1)) (Mat.rowk r b m p) c)) ∧ Ext wr wc)) (fun v10 _ => (m - intOf v10).toNat)
          case atStart => exact ⟨0, by omega, rfl, Lib.hid ⟨by rw [mix_zero]; exact hRk.out.1, hRk.out.2⟩⟩
          case round =>
            obtain ⟨c, hc, rfl, hRc⟩ := hrel
            rename World => wc
            have ml : (Mat.rowk r b m (p + 1)).length = (Mat.rowk r b m p).length := by rw [Mat.rowk_len, Mat.rowk_len]
            by_cases hltc : c < m
            · have hltc' : (c : Int) < (m : Int) := by omega
              obtain ⟨ab', ao', rab, rao, rac, e1, c1, c2⟩ := (HAr.out.ext hRc.out.2).entry (i := i) (j := p) (by rw [SA.out.1]; exact hlt) (by rw [HRL.out.1]; exact HRL.out.2) hltp
              obtain ⟨bb', bo', rbb, rbo, rbc, e2, c3, c4⟩ := (HBr.out.ext hRc.out.2).entry (i := p) (j := c) (by rw [SB.out.1]; exact hltp) (SB.out.row hltp) hltc
              simp only [Option.some.injEq, Addr.mk.injEq, and_true] at e1 e2
              obtain ⟨rfl, rfl⟩ := e1
              obtain ⟨rfl, rfl⟩ := e2
              have ho := mix_at ml (c := c) (by rw [Mat.rowk_len]; exact hltc)
              have hpt := hRc.out.1.parts
              obtain ⟨o, hoo⟩ : ∃ o, (Mat.rowk r b m p).getD c 0 = o := ⟨_, rfl⟩
              obtain ⟨x, hx⟩ : ∃ x, Mat.en a i p = x := ⟨_, rfl⟩
              obtain ⟨y, hy⟩ : ∃ y, Mat.en b p c = y := ⟨_, rfl⟩
              rw [hoo] at ho
              rw [hx] at c2
              rw [hy] at c4
              have c5 := hpt.2.2.2.2.2.1 c (bv o) (by rw [List.getElem?_map, ho]; rfl)
              have u5 := hpt.2.2.2.2.2.2 c
              have hgb := g8_bits o x y
              have hmx := mix_step ml (c := c) (x := o ^^^ g8 x y) (by rw [Mat.rowk_len]; exact hltc) (by
                show _ = (mad (Mat.rowk r b m p) (b.getD p []) (r.getD p 0)).getD c 0
                rw [Mat.mad_getD _ _ _ _ (by rw [Mat.rowk_len]; exact hltc) (by rw [SB.out.row hltp]; exact hltc), hoo, Mat.g8_comm, ← hx, ← hy, ← HRL.out.1]
                rfl)
              have HMX := Lib.hid hmx
              clear hmx ho hpt hoo hx hy ml
              go_wp2_with fail
              go_still_tail 23, (by kernel_rfl)
              still_call ((rmul_any _ _ (u8lt x) (u8lt y) _).mono (fun _ _ h => ⟨h.1, h.2.symm⟩))
              repeat still_step
              refine wpStill_nil ?_
              change wpList _ _ _ _ _ (wc.drewN 1)
              have c6 := (Ext.of_drawn wc 1).cell c5
              have HS := Lib.hid (hRc.out.1.ext (Ext.of_drawn wc 1))
              have hx6 := Lib.hid (Ext.trans hRc.out.2 (Ext.of_drawn wc 1))
              have u6 := HS.out.parts.2.2.2.2.2.2 c
              generalize wc.drewN 1 = wd at c6 u6 HS hx6 ⊢
              clear c1 c2 c3 c4 c5 u5
              have hst := HS.out.set c (bv (o ^^^ g8 x y))
              rw [bvs_set, HMX.out] at hst
              have HN := Lib.hid (And.intro hst (Below.set hx6.out (show wr.heap.size ≤ q from by rw [HQ.out]; exact Nat.le_refl _) c (bv (o ^^^ g8 x y))))
              clear hst
              go_wp2_with fail
              exact ⟨⟨c + 1, by omega, by go_num, HN⟩, by simp [intOf]; omega⟩
            · obtain rfl : c = m := by omega
              have hN := hRc.out.1
              have hma := mix_all ml
              rw [Mat.rowk_len] at hma
              rw [hma] at hN
              have HN := Lib.hid (And.intro hN hRc.out.2)
              clear hN hma ml hltc hltp' hlt'
              go_wp2_with fail
              exact ⟨⟨p + 1, by omega, by go_num, HN⟩, by simp [intOf]; omega⟩
        · obtain rfl : p = k := by omega
          have HO := Lib.hid hRk.out.1
          have HX := Lib.hid hRk.out.2
          have hib : i < a.length := by rw [SA.out.1]; exact hlt
          have HP : Hid ((Mat.mmul a b m).take i ++ [Mat.rowk r b m p] = (Mat.mmul a b m).take (i + 1)) := Lib.hid (by
            have hl : i < (Mat.mmul a b m).length := by rw [(Mat.mmul_sh SA.out).1]; exact hlt
            rw [List.take_add_one, List.getElem?_eq_getElem hl, ← Mat.getD_lt hl [], Mat.mmul_row SA.out hlt, HRL.out.1, SB.out.1]; rfl)
          have HL : Hid (((Mat.mmul a b m).take i).length ≤ 70000) := Lib.hid (by rw [List.length_take]; omega)
          have HQ2 : Hid (Own wk wr.heap.size 5 (.slice (some ⟨q, 0, none⟩) m m) (bvs (Mat.rowk r b m p))) := Lib.hid (by rw [HQ.out]; exact HO.out)
          have HLE := Lib.hid hBr.size
          clear hltp hlt' hib
          go_wp2_with (at_builtin; refine list_of_wp rfl fun K hK => wp_rowA _ _ 215 rfl Tryz.underlying215 rfl rfl rfl hR.out HX.out HQ2.out (Nat.le_refl _) HLE.out HL.out fun ad c w7 hN hB7 => hK _ _ ?_)
          rw [HP.out] at hN
          have HN := Lib.hid hN
          have hB8 := Lib.hid (Below.trans (Below.trans hBr (Below.mono HX.out hBr.size)) hB7)
          clear hN hB7
          go_wp2_with fail
          exact ⟨⟨i + 1, _, _, by omega, by go_num, rfl, HN, hB8.out⟩, by simp [intOf]; omega⟩
    · obtain rfl : i = n := by omega
      have hN := hR.out
      rw [List.take_of_length_le (by rw [(Mat.mmul_sh SA.out).1]; exact Nat.le_refl _)] at hN
      have HN := Lib.hid hN
      have HF := Lib.hid hBr
      clear hN hlt hmk
      go_wp2_with fail
      go_ret2
      exact ⟨_, rfl, HN.out, HF.out⟩
end Go.Proofs.YthkbbcdnmdjhdaaGreat
/-! XRefD: The reference's Invert. -/
namespace Go.Proofs.YthkbbcdnmdjhdaaGreat
open Go.RowKit Gf
set_option maxRecDepth 100000
set_option maxHeartbeats 4000000
attribute [local go_sem] min_int2 max_int2

theorem RA.drew {w : World} {B T : Nat} {v : Value} {ls : List (List UInt8)} (h : RA w B T v ls) : RA w.drew B T v ls := h.ext (Ext.of_drawn w 1)
theorem RA.drewN {w : World} {B T : Nat} {v : Value} {ls : List (List UInt8)} (h : RA w B T v ls) (n : Nat) : RA (w.drewN n) B T v ls := h.ext (Ext.of_drawn w n)

/-- Both halves of what is under way, in two stretches of memory. -/
structure XY (w0 w : World) (B1 B2 B3 n gx gy cx cy : Nat) (x y : Mat.M) : Prop where
  rx : RA w B1 B2 (.slice (some ⟨gx, 0, none⟩) n cx) x
  ry : RA w B2 B3 (.slice (some ⟨gy, 0, none⟩) n cy) y
  b : Below B1 w0 w
  le : B1 ≤ B2
  sx : Mat.Sh x n n
  sy : Mat.Sh y n n
  tp : B3 ≤ w.heap.size
section
variable {w0 w : World} {B1 B2 B3 n gx gy cx cy : Nat} {x y : Mat.M}
theorem XY.drewN (h : XY w0 w B1 B2 B3 n gx gy cx cy x y) (k : Nat) : XY w0 (w.drewN k) B1 B2 B3 n gx gy cx cy x y :=
  ⟨h.rx.drewN k, h.ry.drewN k, ⟨h.b.os, h.b.tape, h.b.output, h.b.size, h.b.block⟩, h.le, h.sx, h.sy, h.tp⟩
theorem XY.drew (h : XY w0 w B1 B2 B3 n gx gy cx cy x y) : XY w0 w.drew B1 B2 B3 n gx gy cx cy x y := h.drewN 1
/-- The entry at r, k of the first: its cells, and what writing it keeps. -/
theorem XY.atX (h : XY w0 w B1 B2 B3 n gx gy cx cy x y) {r k : Nat} (hr : r < n) (hk : k < n) : ∃ b rc, B1 ≤ b ∧ b < B2 ∧ w.cell? ⟨gx, r, none⟩ = some (.slice (some ⟨b, 0, none⟩) n rc) ∧ w.cell? ⟨b, k, none⟩ = some (bv (Mat.en x r k)) ∧ w.frozen? ⟨b, k, none⟩ = false ∧
    ∀ (z : UInt8), XY w0 (w.setCell ⟨b, k, none⟩ (bv z)) B1 B2 B3 n gx gy cx cy (x.set r ((x.getD r []).set k z)) y := by
  obtain ⟨g1, g2⟩ := h.sx.get hr
  obtain ⟨b, rc, c1, l1, l2, l3, c2, u, st⟩ := h.rx.row g1 (by omega)
  rw [g2] at c1
  refine ⟨b, rc, l1, l2, c1, c2 k _ ?_, u k, fun z => ⟨st k z, h.ry.off (.inl l2) _, Below.setCell h.b l1 _, h.le, h.sx.set (by rw [List.length_set]; exact g2), h.sy, by rw [setCell_size]; exact h.tp⟩⟩
  unfold Mat.en
  rw [Mat.getD_lt (by omega : k < (x.getD r []).length)]
  exact List.getElem?_eq_getElem _
theorem XY.atY (h : XY w0 w B1 B2 B3 n gx gy cx cy x y) {r k : Nat} (hr : r < n) (hk : k < n) : ∃ b rc, B2 ≤ b ∧ w.cell? ⟨gy, r, none⟩ = some (.slice (some ⟨b, 0, none⟩) n rc) ∧ w.cell? ⟨b, k, none⟩ = some (bv (Mat.en y r k)) ∧ w.frozen? ⟨b, k, none⟩ = false ∧
    ∀ (z : UInt8), XY w0 (w.setCell ⟨b, k, none⟩ (bv z)) B1 B2 B3 n gx gy cx cy x (y.set r ((y.getD r []).set k z)) := by
  obtain ⟨g1, g2⟩ := h.sy.get hr
  obtain ⟨b, rc, c1, l1, l2, l3, c2, u, st⟩ := h.ry.row g1 (by omega)
  rw [g2] at c1
  have := h.le
  refine ⟨b, rc, l1, c1, c2 k _ ?_, u k, fun z => ⟨h.rx.off (.inr l1) _, st k z, Below.setCell h.b (by show B1 ≤ b; omega) _, h.le, h.sx, h.sy.set (by rw [List.length_set]; exact g2), by rw [setCell_size]; exact h.tp⟩⟩
  unfold Mat.en
  rw [Mat.getD_lt (by omega : k < (y.getD r []).length)]
  exact List.getElem?_eq_getElem _
theorem setCell_comm (w : World) {a b : Addr} (h : a.block ≠ b.block) (u v : Value) : (w.setCell a u).setCell b v = (w.setCell b v).setCell a u := by
  unfold World.setCell
  congr 1
  apply Array.ext (by simp)
  intro i h1 h2
  simp only [Array.getElem_modify]
  by_cases e : b.block = i
  · rw [if_pos e, if_neg (fun x => h (x.trans e.symm)), if_neg (fun x => h (x.trans e.symm)), if_pos e]
  · rw [if_neg e, if_neg e]
/-- The entries at r, k of both, written. -/
theorem XY.at2 (h : XY w0 w B1 B2 B3 n gx gy cx cy x y) {r k : Nat} (hr : r < n) (hk : k < n) : ∃ b rc b' rc', b ≠ b' ∧ b ≠ gy ∧ b' ≠ gx ∧ w.cell? ⟨gx, r, none⟩ = some (.slice (some ⟨b, 0, none⟩) n rc) ∧ w.cell? ⟨b, k, none⟩ = some (bv (Mat.en x r k)) ∧ w.frozen? ⟨b, k, none⟩ = false ∧
    w.cell? ⟨gy, r, none⟩ = some (.slice (some ⟨b', 0, none⟩) n rc') ∧ w.cell? ⟨b', k, none⟩ = some (bv (Mat.en y r k)) ∧ w.frozen? ⟨b', k, none⟩ = false ∧
    ∀ (z z' : UInt8), XY w0 ((w.setCell ⟨b, k, none⟩ (bv z)).setCell ⟨b', k, none⟩ (bv z')) B1 B2 B3 n gx gy cx cy (x.set r ((x.getD r []).set k z)) (y.set r ((y.getD r []).set k z')) := by
  obtain ⟨b, rc, l1, l2, c1, c2, u1, st1⟩ := h.atX hr hk
  obtain ⟨b', rc', l3, d1, d2, u2, st2⟩ := h.atY hr hk
  have hl := h.le
  have hlx := h.sx.1
  have hly := h.sy.1
  obtain ⟨g, c', e, m1, m2, -⟩ := h.rx.open1 (by omega)
  simp only [Value.slice.injEq, Option.some.injEq, Addr.mk.injEq, and_true] at e
  obtain ⟨rfl, -, -⟩ := e
  obtain ⟨g, c', e, m3, m4, -⟩ := h.ry.open1 (by omega)
  simp only [Value.slice.injEq, Option.some.injEq, Addr.mk.injEq, and_true] at e
  obtain ⟨rfl, -, -⟩ := e
  have hbb : b ≠ b' := by omega
  refine ⟨b, rc, b', rc', hbb, by omega, by omega, c1, c2, u1, d1, d2, u2, fun z z' => ?_⟩
  have s1 := st1 z
  have s2 := st2 z'
  refine ⟨s1.rx.off (.inr l3) _, ?_, Below.setCell s1.b (by show B1 ≤ b'; omega) _, h.le, s1.sx, s2.sy, by rw [setCell_size, setCell_size]; exact h.tp⟩
  rw [setCell_comm w (a := ⟨b, k, none⟩) (b := ⟨b', k, none⟩) hbb]
  exact s2.ry.off (.inl l2) _
/-- Two rows of each change their places. -/
theorem XY.swapX (h : XY w0 w B1 B2 B3 n gx gy cx cy x y) {c p : Nat} (hc : c < n) (hp : p < n) : ∃ ra rc rb rd, w.cell? ⟨gx, c, none⟩ = some (.slice ra n rc) ∧ w.cell? ⟨gx, p, none⟩ = some (.slice rb n rd) ∧ (∀ j, w.frozen? ⟨gx, j, none⟩ = false) ∧
    XY w0 ((w.setCell ⟨gx, c, none⟩ (.slice rb n rd)).setCell ⟨gx, p, none⟩ (.slice ra n rc)) B1 B2 B3 n gx gy cx cy (Mat.swap x c p) y := by
  obtain ⟨g1, g2⟩ := h.sx.get hc
  obtain ⟨g3, g4⟩ := h.sx.get hp
  obtain ⟨ra, rc, c1, -⟩ := h.rx.at g1
  obtain ⟨rb, rd, c2, -⟩ := h.rx.at g3
  rw [g2] at c1
  rw [g4] at c2
  have hl := h.sx.1
  obtain ⟨g, c', e, l1, l2, u⟩ := h.rx.open1 (by omega)
  simp only [Value.slice.injEq, Option.some.injEq, Addr.mk.injEq, and_true] at e
  obtain ⟨rfl, -, -⟩ := e
  exact ⟨_, _, _, _, c1, c2, u, h.rx.swap c1 c2 g1 g3, (h.ry.off (.inl l2) _).off (.inl l2) _, Below.setCell (Below.setCell h.b l1 _) l1 _, h.le, Mat.swap_sh h.sx hc hp, h.sy, by rw [setCell_size, setCell_size]; exact h.tp⟩
theorem XY.swapY (h : XY w0 w B1 B2 B3 n gx gy cx cy x y) {c p : Nat} (hc : c < n) (hp : p < n) : ∃ ra rc rb rd, w.cell? ⟨gy, c, none⟩ = some (.slice ra n rc) ∧ w.cell? ⟨gy, p, none⟩ = some (.slice rb n rd) ∧ (∀ j, w.frozen? ⟨gy, j, none⟩ = false) ∧
    XY w0 ((w.setCell ⟨gy, c, none⟩ (.slice rb n rd)).setCell ⟨gy, p, none⟩ (.slice ra n rc)) B1 B2 B3 n gx gy cx cy x (Mat.swap y c p) := by
  obtain ⟨g1, g2⟩ := h.sy.get hc
  obtain ⟨g3, g4⟩ := h.sy.get hp
  obtain ⟨ra, rc, c1, -⟩ := h.ry.at g1
  obtain ⟨rb, rd, c2, -⟩ := h.ry.at g3
  rw [g2] at c1
  rw [g4] at c2
  have hl := h.sy.1
  obtain ⟨g, c', e, l1, l2, u⟩ := h.ry.open1 (by omega)
  simp only [Value.slice.injEq, Option.some.injEq, Addr.mk.injEq, and_true] at e
  obtain ⟨rfl, -, -⟩ := e
  have := h.le
  exact ⟨_, _, _, _, c1, c2, u, (h.rx.off (.inr l1) _).off (.inr l1) _, h.ry.swap c1 c2 g1 g3, Below.setCell (Below.setCell h.b (by show B1 ≤ gy; omega) _) (by show B1 ≤ gy; omega) _, h.le, h.sx, Mat.swap_sh h.sy hc hp, by rw [setCell_size, setCell_size]; exact h.tp⟩
end

theorem set_row_set (x : Mat.M) (n c k : Nat) (hx : Mat.Sh x n n) (hc : c < n) (l : List UInt8) (z : UInt8) : (x.set c l).set c (((x.set c l).getD c []).set k z) = x.set c (l.set k z) := by
  rw [Mat.set_getD _ _ _ _ (by rw [hx.1]; exact hc), if_pos rfl, List.set_set]
theorem rinvert_any (v : Value) (a : Mat.M) (n : Nat) (h1 : 1 ≤ n ∧ n ≤ 255) (ha : Mat.Sh a n n) (w : World) (hA : BRows w v a) :
    Calls Tryz.prog 151 #[v] w fun e w' => (Mat.minv n a = none ∧ e = .returned (.tuple #[.slice none 0 0, .bool false]) ∧ Ext w w') ∨ (∃ z u, Mat.minv n a = some z ∧ e = .returned (.tuple #[u, .bool true]) ∧ RA w' w.heap.size w'.heap.size u z ∧ Ext w w') := by
  obtain ⟨aa, ac, rfl⟩ := hA.form
  obtain ⟨b0, b1⟩ := h1
  have HSA := Lib.hid ha
  rw [ha.1] at hA
  rw [ha.1]
  have HA := Lib.hid hA
  clear hA ha
  go_enter Tryz.func151, Tryz.ntmps151
  go_wp2_with fail
  refine (rsquare_any _ a true ⟨fun _ => ⟨n, b0, b1, HSA.out⟩, fun _ => rfl⟩ _ HA.out).mono ?_; rintro e w1 ⟨rfl, x1⟩
  have X1 := Lib.hid x1
  clear x1
  go_wp2_with fail
  refine (rcopyA_any _ a (by rw [HSA.out.1]; omega) (fun r hr => by rw [HSA.out.2 r hr]; omega) _ (HA.out.ext X1.out)).mono ?_; rintro e w2 ⟨u, rfl, hX, x2⟩
  obtain ⟨gx, cx, rfl, -⟩ := hX.open1 (by rw [HSA.out.1]; omega)
  rw [HSA.out.1] at hX ⊢
  have HX := Lib.hid hX
  have X2 := Lib.hid x2
  clear x2 hX
  go_wp2_with fail
  refine (runitA_any n b0 b1 _).mono ?_; rintro e w3 ⟨u, rfl, hY, x3⟩
  obtain ⟨gy, cy, rfl, -⟩ := hY.open1 (by rw [(Mat.unit_sh n).1]; omega)
  rw [(Mat.unit_sh n).1] at hY ⊢
  have HXY : Hid (XY w1 w3 w1.heap.size w2.heap.size w3.heap.size n gx gy cx cy a (Mat.unit n)) := Lib.hid ⟨HX.out.ext x3, hY, Ext.trans X2.out x3, X2.out.size, HSA.out, Mat.unit_sh n, Nat.le_refl _⟩
  obtain ⟨B1, hB1⟩ : ∃ B1, w1.heap.size = B1 := ⟨_, rfl⟩
  obtain ⟨B2, hB2⟩ : ∃ B2, w2.heap.size = B2 := ⟨_, rfl⟩
  obtain ⟨B3, hB3⟩ : ∃ B3, w3.heap.size = B3 := ⟨_, rfl⟩
  rw [hB1, hB2, hB3] at HXY
  have HB := Lib.hid (And.intro hB1 (And.intro hB2 hB3))
  clear hY x3 hB1 hB2 hB3 HX
  go_wp2_with fail
  go_loopw [7] (fun v7 wr => ∃ (c : Nat) (x y : Mat.M), c ≤ n ∧ v7 = .int .i64 (c : Nat) ∧ Hid (XY w1 wr B1 B2 B3 n gx gy cx cy x y) ∧ Hid (Mat.minv n a = Mat.gj n (n - c) c x y)) (fun v7 _ => (n - intOf v7).toNat)
  case atStart => exact ⟨0, a, Mat.unit n, by omega, rfl, HXY, Lib.hid rfl⟩
  case round =>
    obtain ⟨c, x, y, hc, rfl, HR, hJ⟩ := hrel
    by_cases hlt : c < n
    · have hlt' : (c : Int) < (n : Int) := by omega
      go_wp2_with fail
      go_loop [8] (fun v8 => ∃ p : Nat, c ≤ p ∧ p ≤ n ∧ v8 = .int .i64 (p : Nat) ∧ Hid (Mat.pv x n c = Mat.pvf x c (n - p) p)) (fun v8 => (n - intOf v8).toNat)
      case atStart => exact ⟨c, by omega, by omega, rfl, Lib.hid rfl⟩
      case round =>
        obtain ⟨p, hcp, hp, rfl, hJp⟩ := hrel
        by_cases hltp : p < n
        · have hltp' : (p : Int) < (n : Int) := by omega
          obtain ⟨b, rc, -, -, c1, c2, -, -⟩ := HR.out.atX hltp hlt
          obtain ⟨z, hz⟩ : ∃ z, Mat.en x p c = z := ⟨_, rfl⟩
          rw [hz] at c2
          have HZ := Lib.hid hz
          clear hz
          by_cases h0 : z = 0
          · have h0' : ((z.toNat : Int) == 0) = true := by rw [h0]; rfl
            have H0 := Lib.hid h0
            clear h0
            go_wp2_with fail
            refine ⟨⟨p + 1, by omega, by omega, by go_num, Lib.hid ?_⟩, by simp [intOf]; omega⟩
            rw [hJp.out, show n - p = (n - (p + 1)) + 1 by omega]
            show (if Mat.en x p c = 0 then _ else _) = _
            rw [HZ.out, if_pos H0.out]
          · have h0' : ((z.toNat : Int) == 0) = false := by
              have : z.toNat ≠ 0 := fun h => h0 (UInt8.toNat_inj.1 h)
              simp; omega
            have q1 : ((p : Int) == (n : Int)) = false := by simp; omega
            have hpv : Mat.pv x n c = some p := by
              rw [hJp.out, show n - p = (n - (p + 1)) + 1 by omega]
              show (if Mat.en x p c = 0 then _ else _) = _
              rw [HZ.out, if_neg h0]
            have hstep : Mat.minv n a = Mat.gj n (n - (c + 1)) (c + 1) (Mat.stepX x n c p) (Mat.stepY x y n c p) := by
              rw [hJ.out, show n - c = (n - (c + 1)) + 1 by omega]
              rw [Mat.gj, hpv]
            obtain ⟨x1, hx1⟩ : ∃ x1, Mat.swap x c p = x1 := ⟨_, rfl⟩
            obtain ⟨y1, hy1⟩ : ∃ y1, Mat.swap y c p = y1 := ⟨_, rfl⟩
            have hen : Mat.en x1 c c = z := by
              rw [← HZ.out]
              show (x1.getD c []).getD c 0 = (x.getD p []).getD c 0
              rw [← hx1, Mat.swap_row HR.out.sx hlt hltp, if_pos rfl]
            have hstep2 : Mat.minv n a = Mat.gj n (n - (c + 1)) (c + 1) (Mat.clear (Mat.scale x1 n c (Mat.gi z)) c (fun i => Mat.en (Mat.scale x1 n c (Mat.gi z)) i c) n) (Mat.clear (Mat.scale y1 n c (Mat.gi z)) c (fun i => Mat.en (Mat.scale x1 n c (Mat.gi z)) i c) n) := by
              rw [hstep, ← hen, ← hx1, ← hy1]; rfl
            have H2 := Lib.hid hstep2
            have H0 := Lib.hid h0
            have HEN := Lib.hid hen
            have HX1 := Lib.hid hx1
            have HY1 := Lib.hid hy1
            clear hx1 hy1 hstep hstep2 hpv hen h0
            go_wp2_with fail
            clear c1 c2
            obtain ⟨sa, sc, ta, tc, d1, d2, uf, st⟩ := HR.out.swapX hlt hltp
            rw [HX1.out] at st
            have ST := Lib.hid st
            have uc := uf c
            have up := uf p
            clear st uf
            refine wp_cut [48, 49, 50, 51, 52, 53, 54, 55, 56, 57, 58, 59, 60, 61] (fun w8 => XY w1 w8 B1 B2 B3 n gx gy cx cy x1 y) ?_ ?_
            · by_cases hpc : p = c
              · subst hpc
                have e := d1.symm.trans d2
                simp only [Option.some.injEq, Value.slice.injEq, true_and] at e
                obtain ⟨rfl, rfl⟩ := e
                go_region
                exact cut_end ST.out.drew (by kernel_rfl)
              · have hpc2 : c ≠ p := fun h => hpc h.symm
                go_region
                exact cut_end ST.out.drew (by kernel_rfl)
            · intro us w4 h4
              have HR4 := Lib.hid h4
              clear h4 d1 d2 uc up ST
              obtain ⟨sa, sc, ta, tc, d1, d2, uf, st⟩ := HR4.out.swapY hlt hltp
              rw [HY1.out] at st
              have ST := Lib.hid st
              have uc := uf c
              have up := uf p
              clear st uf
              simp only [setAll, List.foldl_cons, List.foldl_nil, List.set_cons_zero, List.set_cons_succ]
              go_wp2_with fail
              refine wp_cut [62, 63, 64, 65, 66, 67, 68, 69, 70, 71, 72, 73, 74, 75] (fun w8 => XY w1 w8 B1 B2 B3 n gx gy cx cy x1 y1) ?_ ?_
              · by_cases hpc : p = c
                · subst hpc
                  have e := d1.symm.trans d2
                  simp only [Option.some.injEq, Value.slice.injEq, true_and] at e
                  obtain ⟨rfl, rfl⟩ := e
                  go_region
                  exact cut_end ST.out.drew (by kernel_rfl)
                · have hpc2 : c ≠ p := fun h => hpc h.symm
                  go_region
                  exact cut_end ST.out.drew (by kernel_rfl)
              · intro us2 w5 h5
                have HR5 := Lib.hid h5
                clear h5 d1 d2 uc up ST
                simp only [setAll, List.foldl_cons, List.foldl_nil, List.set_cons_zero, List.set_cons_succ]
                obtain ⟨b, rc, -, -, c1, c2, -, -⟩ := HR5.out.atX hlt hlt
                rw [HEN.out] at c2
                go_wp2_with fail
                refine (rinv_any z.toNat (u8lt z) (Mat.ne_toNat H0.out) _).mono ?_; rintro e w' ⟨rfl, rfl⟩
                have hgi : ginv z.toNat = (Mat.gi z).toNat := (Mat.gi_toNat z).symm
                rw [hgi]
                clear hgi c1 c2
                obtain ⟨f, hf⟩ : ∃ f, Mat.gi z = f := ⟨_, rfl⟩
                rw [hf] at H2 ⊢
                clear hf
                obtain ⟨ox, hox⟩ : ∃ ox, x1.getD c [] = ox := ⟨_, rfl⟩
                obtain ⟨oy, hoy⟩ : ∃ oy, y1.getD c [] = oy := ⟨_, rfl⟩
                obtain ⟨nx, hnx⟩ : ∃ nx, mad (List.replicate n 0) ox f = nx := ⟨_, rfl⟩
                obtain ⟨ny, hny⟩ : ∃ ny, mad (List.replicate n 0) oy f = ny := ⟨_, rfl⟩
                have lox : ox.length = n := by rw [← hox]; exact HR5.out.sx.row hlt
                have loy : oy.length = n := by rw [← hoy]; exact HR5.out.sy.row hlt
                have lnx : nx.length = n := by rw [← hnx, mad_length]; simp
                have lny : ny.length = n := by rw [← hny, mad_length]; simp
                have hsx : Mat.scale x1 n c f = x1.set c nx := by rw [← hnx, ← hox]; rfl
                have hsy : Mat.scale y1 n c f = y1.set c ny := by rw [← hny, ← hoy]; rfl
                have HL := Lib.hid (And.intro lox (And.intro loy (And.intro lnx lny)))
                have HO := Lib.hid (And.intro hox (And.intro hoy (And.intro hnx hny)))
                have HSC := Lib.hid (And.intro hsx hsy)
                clear hox hoy hnx hny lox loy lnx lny hsx hsy
                go_wp2_with fail
                go_loopw [11] (fun v11 wk => ∃ k : Nat, k ≤ n ∧ v11 = .int .i64 (k : Nat) ∧ Hid (XY w1 wk B1 B2 B3 n gx gy cx cy (x1.set c (mix nx ox k)) (y1.set c (mix ny oy k)))) (fun v11 _ => (n - intOf v11).toNat)
                case atStart => exact ⟨0, by omega, rfl, Lib.hid (by rw [mix_zero, mix_zero, ← HO.out.1, ← HO.out.2.1, Mat.set_self, Mat.set_self]; exact HR5.out)⟩
                case round =>
                  obtain ⟨k, hk, rfl, HK⟩ := hrel
                  rename World => wk
                  by_cases hltk : k < n
                  · have hltk' : (k : Int) < (n : Int) := by omega
                    obtain ⟨b, rc, b', rc', ne1, ne2, ne3, c1, c2, u1, d1, d2, u2, st⟩ := HK.out.at2 hlt hltk
                    have m1 : nx.length = ox.length := by rw [HL.out.2.2.1, HL.out.1]
                    have m2 : ny.length = oy.length := by rw [HL.out.2.2.2, HL.out.2.1]
                    have hp1 : Mat.en (x1.set c (mix nx ox k)) c k = ox.getD k 0 := by
                      show ((x1.set c (mix nx ox k)).getD c []).getD k 0 = _
                      rw [Mat.set_getD _ _ _ _ (by rw [HR5.out.sx.1]; exact hlt), if_pos rfl, List.getD_eq_getElem?_getD, mix_at m1 (by rw [HL.out.1]; exact hltk)]; rfl
                    have hp2 : Mat.en (y1.set c (mix ny oy k)) c k = oy.getD k 0 := by
                      show ((y1.set c (mix ny oy k)).getD c []).getD k 0 = _
                      rw [Mat.set_getD _ _ _ _ (by rw [HR5.out.sy.1]; exact hlt), if_pos rfl, List.getD_eq_getElem?_getD, mix_at m2 (by rw [HL.out.2.1]; exact hltk)]; rfl
                    rw [hp1] at c2
                    rw [hp2] at d2
                    have hs := st (g8 (ox.getD k 0) f) (g8 (oy.getD k 0) f)
                    have zz : ∀ (o : List UInt8), o.length = n → (mad (List.replicate n 0) o f).getD k 0 = g8 (o.getD k 0) f := fun o ho => by
                      rw [Mat.mad_getD _ _ _ _ (by simpa using hltk) (by rw [ho]; exact hltk), Mat.zeros_getD, Mat.zerox]
                    rw [set_row_set x1 n c k HR5.out.sx hlt, set_row_set y1 n c k HR5.out.sy hlt, mix_step m1 (by rw [HL.out.1]; exact hltk) (by rw [← HO.out.2.2.1]; exact (zz ox HL.out.1).symm), mix_step m2 (by rw [HL.out.2.1]; exact hltk) (by rw [← HO.out.2.2.2]; exact (zz oy HL.out.2.1).symm)] at hs
                    have ST := Lib.hid hs
                    obtain ⟨p1, hp1'⟩ : ∃ p1, ox.getD k 0 = p1 := ⟨_, rfl⟩
                    obtain ⟨p2, hp2'⟩ : ∃ p2, oy.getD k 0 = p2 := ⟨_, rfl⟩
                    rw [hp1'] at c2 ST
                    rw [hp2'] at d2 ST
                    clear hp1 hp2 m1 m2 hs zz st hp1' hp2'
                    go_wp2_with fail
                    refine wp_cut [92, 93, 94, 95, 96, 97, 98, 99, 100, 101, 102, 103, 104, 105, 106, 107, 108, 109, 110, 111, 112, 113, 114, 115, 116, 117, 118, 119, 120, 121] (fun w8 => XY w1 w8 B1 B2 B3 n gx gy cx cy (x1.set c (mix nx ox (k + 1))) (y1.set c (mix ny oy (k + 1)))) ?_ ?_
                    · have ST1 := ST.out.drew
                      unfold bv at ST1
                      rw [g8_toNat, g8_toNat] at ST1
                      have ST2 := Lib.hid ST1
                      clear ST1
                      have hS : (fun w' : World => w'.cell? ⟨gx, c, none⟩ = some (.slice (some ⟨b, 0, none⟩) n rc) ∧ w'.cell? ⟨gy, c, none⟩ = some (.slice (some ⟨b', 0, none⟩) n rc') ∧ w'.cell? ⟨b, k, none⟩ = some (bv p1) ∧ w'.cell? ⟨b', k, none⟩ = some (bv p2)) wk.drew := ⟨c1, d1, c2, d2⟩
                      have hlS : ∀ wl : World, (fun w' : World => w'.cell? ⟨gx, c, none⟩ = some (.slice (some ⟨b, 0, none⟩) n rc) ∧ w'.cell? ⟨gy, c, none⟩ = some (.slice (some ⟨b', 0, none⟩) n rc') ∧ w'.cell? ⟨b, k, none⟩ = some (bv p1) ∧ w'.cell? ⟨b', k, none⟩ = some (bv p2)) wl → wl.cell? ⟨gx, c, none⟩ = some (.slice (some ⟨b, 0, none⟩) n rc) ∧ wl.cell? ⟨gy, c, none⟩ = some (.slice (some ⟨b', 0, none⟩) n rc') ∧ wl.cell? ⟨b, k, none⟩ = some (bv p1) ∧ wl.cell? ⟨b', k, none⟩ = some (bv p2) := fun wl h => h
                      refine wp_region_U (fun w' : World => w'.cell? ⟨gx, c, none⟩ = some (.slice (some ⟨b, 0, none⟩) n rc) ∧ w'.cell? ⟨gy, c, none⟩ = some (.slice (some ⟨b', 0, none⟩) n rc') ∧ w'.cell? ⟨b, k, none⟩ = some (bv p1) ∧ w'.cell? ⟨b', k, none⟩ = some (bv p2)) 29 (by kernel_rfl) ?_
                      refine wpU_pure (i := 0) (v := ?_) rfl (by kernel_rfl) (by kernel_rfl) (by kernel_rfl) (by decide) (fun _ _ _ h => h) (fun _ => hS) (Or.inl ⟨by rfl, fun _ _ => ?_⟩) ?_
                      rotate_left
                      · go_simp
                        try with_reducible rfl
                      try simp only [Act.put]
                      refine wpU_pure (i := 1) (v := ?_) rfl (by kernel_rfl) (by kernel_rfl) (by kernel_rfl) (by decide) (fun _ _ _ h => h) (fun _ => hS) (Or.inl ⟨by rfl, fun _ _ => ?_⟩) ?_
                      rotate_left
                      · go_simp
                        try with_reducible rfl
                      try simp only [Act.put]
                      refine wpU_pure (i := 2) (v := ?_) rfl (by kernel_rfl) (by kernel_rfl) (by kernel_rfl) (by decide) (fun _ _ _ h => h) (fun _ => hS) (Or.inl ⟨by rfl, fun _ _ => ?_⟩) ?_
                      rotate_left
                      · go_simp
                        try with_reducible rfl
                      try simp only [Act.put]
                      refine wpU_load (i := 3) (v := ?_) rfl (by kernel_rfl) (by kernel_rfl) (by kernel_rfl) (by decide) (by kernel_rfl) (by kernel_rfl) (fun _ _ _ h => h) hS (Or.inl ⟨by rfl, fun wl hl => ?_⟩) ?_
                      rotate_left
                      · have hl2 := hlS wl hl
                        obtain ⟨l1, l2, l3, l4⟩ := hl2
                        go_simp
                        try with_reducible rfl
                      try simp only [Act.put]
                      refine wpU_pure (i := 4) (v := ?_) rfl (by kernel_rfl) (by kernel_rfl) (by kernel_rfl) (by decide) (fun _ _ _ h => h) (fun _ => hS) (Or.inl ⟨by rfl, fun _ _ => ?_⟩) ?_
                      rotate_left
                      · go_simp
                        try with_reducible rfl
                      try simp only [Act.put]
                      refine wpU_pure (i := 5) (v := ?_) rfl (by kernel_rfl) (by kernel_rfl) (by kernel_rfl) (by decide) (fun _ _ _ h => h) (fun _ => hS) (Or.inl ⟨by rfl, fun _ _ => ?_⟩) ?_
                      rotate_left
                      · go_simp
                        try with_reducible rfl
                      try simp only [Act.put]
                      refine wpU_pure (i := 6) (v := ?_) rfl (by kernel_rfl) (by kernel_rfl) (by kernel_rfl) (by decide) (fun _ _ _ h => h) (fun _ => hS) (Or.inl ⟨by rfl, fun _ _ => ?_⟩) ?_
                      rotate_left
                      · go_simp
                        try with_reducible rfl
                      try simp only [Act.put]
                      refine wpU_pure (i := 7) (v := ?_) rfl (by kernel_rfl) (by kernel_rfl) (by kernel_rfl) (by decide) (fun _ _ _ h => h) (fun _ => hS) (Or.inl ⟨by rfl, fun _ _ => ?_⟩) ?_
                      rotate_left
                      · go_simp
                        try with_reducible rfl
                      try simp only [Act.put]
                      refine wpU_load (i := 8) (v := ?_) rfl (by kernel_rfl) (by kernel_rfl) (by kernel_rfl) (by decide) (by kernel_rfl) (by kernel_rfl) (fun _ _ _ h => h) hS (Or.inl ⟨by rfl, fun wl hl => ?_⟩) ?_
                      rotate_left
                      · have hl2 := hlS wl hl
                        obtain ⟨l1, l2, l3, l4⟩ := hl2
                        go_simp
                        try with_reducible rfl
                      try simp only [Act.put]
                      refine wpU_pure (i := 9) (v := ?_) rfl (by kernel_rfl) (by kernel_rfl) (by kernel_rfl) (by decide) (fun _ _ _ h => h) (fun _ => hS) (Or.inl ⟨by rfl, fun _ _ => ?_⟩) ?_
                      rotate_left
                      · go_simp
                        try with_reducible rfl
                      try simp only [Act.put]
                      refine wpU_pure (i := 10) (v := ?_) rfl (by kernel_rfl) (by kernel_rfl) (by kernel_rfl) (by decide) (fun _ _ _ h => h) (fun _ => hS) (Or.inl ⟨by rfl, fun _ _ => ?_⟩) ?_
                      rotate_left
                      · go_simp
                        try with_reducible rfl
                      try simp only [Act.put]
                      refine wpU_pure (i := 11) (v := ?_) rfl (by kernel_rfl) (by kernel_rfl) (by kernel_rfl) (by decide) (fun _ _ _ h => h) (fun _ => hS) (Or.inl ⟨by rfl, fun _ _ => ?_⟩) ?_
                      rotate_left
                      · go_simp
                        try with_reducible rfl
                      try simp only [Act.put]
                      refine wpU_pure (i := 12) (v := ?_) rfl (by kernel_rfl) (by kernel_rfl) (by kernel_rfl) (by decide) (fun _ _ _ h => h) (fun _ => hS) (Or.inl ⟨by rfl, fun _ _ => ?_⟩) ?_
                      rotate_left
                      · go_simp
                        try with_reducible rfl
                      try simp only [Act.put]
                      refine wpU_load (i := 13) (v := ?_) rfl (by kernel_rfl) (by kernel_rfl) (by kernel_rfl) (by decide) (by kernel_rfl) (by kernel_rfl) (fun _ _ _ h => h) hS (Or.inl ⟨by rfl, fun wl hl => ?_⟩) ?_
                      rotate_left
                      · have hl2 := hlS wl hl
                        obtain ⟨l1, l2, l3, l4⟩ := hl2
                        go_simp
                        try with_reducible rfl
                      try simp only [Act.put]
                      refine wpU_pure (i := 14) (v := ?_) rfl (by kernel_rfl) (by kernel_rfl) (by kernel_rfl) (by decide) (fun _ _ _ h => h) (fun _ => hS) (Or.inl ⟨by rfl, fun _ _ => ?_⟩) ?_
                      rotate_left
                      · go_simp
                        try with_reducible rfl
                      try simp only [Act.put]
                      refine wpU_pure (i := 15) (v := ?_) rfl (by kernel_rfl) (by kernel_rfl) (by kernel_rfl) (by decide) (fun _ _ _ h => h) (fun _ => hS) (Or.inl ⟨by rfl, fun _ _ => ?_⟩) ?_
                      rotate_left
                      · go_simp
                        try with_reducible rfl
                      try simp only [Act.put]
                      refine wpU_load (i := 16) (v := ?_) rfl (by kernel_rfl) (by kernel_rfl) (by kernel_rfl) (by decide) (by kernel_rfl) (by kernel_rfl) (fun _ _ _ h => h) hS (Or.inl ⟨by rfl, fun wl hl => ?_⟩) ?_
                      rotate_left
                      · have hl2 := hlS wl hl
                        obtain ⟨l1, l2, l3, l4⟩ := hl2
                        go_simp
                        try with_reducible rfl
                      try simp only [Act.put]
                      refine wpU_pure (i := 17) (v := ?_) rfl (by kernel_rfl) (by kernel_rfl) (by kernel_rfl) (by decide) (fun _ _ _ h => h) (fun _ => hS) (Or.inl ⟨by rfl, fun _ _ => ?_⟩) ?_
                      rotate_left
                      · go_simp
                        try with_reducible rfl
                      try simp only [Act.put]
                      refine wpU_pure (i := 19) (v := ?_) rfl (by kernel_rfl) (by kernel_rfl) (by kernel_rfl) (by decide) (fun _ _ _ h => h) (fun _ => hS) (Or.inl ⟨by rfl, fun _ _ => ?_⟩) ?_
                      rotate_left
                      · go_simp
                        try with_reducible rfl
                      try simp only [Act.put]
                      refine wpU_pure (i := 20) (v := ?_) rfl (by kernel_rfl) (by kernel_rfl) (by kernel_rfl) (by decide) (fun _ _ _ h => h) (fun _ => hS) (Or.inl ⟨by rfl, fun _ _ => ?_⟩) ?_
                      rotate_left
                      · go_simp
                        try with_reducible rfl
                      try simp only [Act.put]
                      refine wpU_pure (i := 21) (v := ?_) rfl (by kernel_rfl) (by kernel_rfl) (by kernel_rfl) (by decide) (fun _ _ _ h => h) (fun _ => hS) (Or.inl ⟨by rfl, fun _ _ => ?_⟩) ?_
                      rotate_left
                      · go_simp
                        try with_reducible rfl
                      try simp only [Act.put]
                      refine wpU_load (i := 22) (v := ?_) rfl (by kernel_rfl) (by kernel_rfl) (by kernel_rfl) (by decide) (by kernel_rfl) (by kernel_rfl) (fun _ _ _ h => h) hS (Or.inl ⟨by rfl, fun wl hl => ?_⟩) ?_
                      rotate_left
                      · have hl2 := hlS wl hl
                        obtain ⟨l1, l2, l3, l4⟩ := hl2
                        go_simp
                        try with_reducible rfl
                      try simp only [Act.put]
                      refine wpU_pure (i := 23) (v := ?_) rfl (by kernel_rfl) (by kernel_rfl) (by kernel_rfl) (by decide) (fun _ _ _ h => h) (fun _ => hS) (Or.inl ⟨by rfl, fun _ _ => ?_⟩) ?_
                      rotate_left
                      · go_simp
                        try with_reducible rfl
                      try simp only [Act.put]
                      refine wpU_pure (i := 24) (v := ?_) rfl (by kernel_rfl) (by kernel_rfl) (by kernel_rfl) (by decide) (fun _ _ _ h => h) (fun _ => hS) (Or.inl ⟨by rfl, fun _ _ => ?_⟩) ?_
                      rotate_left
                      · go_simp
                        try with_reducible rfl
                      try simp only [Act.put]
                      refine wpU_load (i := 25) (v := ?_) rfl (by kernel_rfl) (by kernel_rfl) (by kernel_rfl) (by decide) (by kernel_rfl) (by kernel_rfl) (fun _ _ _ h => h) hS (Or.inl ⟨by rfl, fun wl hl => ?_⟩) ?_
                      rotate_left
                      · have hl2 := hlS wl hl
                        obtain ⟨l1, l2, l3, l4⟩ := hl2
                        go_simp
                        try with_reducible rfl
                      try simp only [Act.put]
                      refine wpU_pure (i := 26) (v := ?_) rfl (by kernel_rfl) (by kernel_rfl) (by kernel_rfl) (by decide) (fun _ _ _ h => h) (fun _ => hS) (Or.inl ⟨by rfl, fun _ _ => ?_⟩) ?_
                      rotate_left
                      · go_simp
                        try with_reducible rfl
                      try simp only [Act.put]
                      refine wpU_all [18] (by kernel_rfl) (by simp) ?_
                      refine ReadyU.cons rfl (fun K hK => ?_) (ReadyU.nil)
                      go_simp
                      refine (rmul_any _ _ (u8lt _) (u8lt _) _).mono ?_
                      rintro e w' ⟨rfl, rfl⟩
                      go_simp
                      refine hK.out _ _ (fun _ => hS) ?_
                      clear hK K
                      refine wpU_all [27] (by kernel_rfl) (by simp) ?_
                      refine ReadyU.cons rfl (fun K hK => ?_) (ReadyU.nil)
                      go_simp
                      refine (rmul_any _ _ (u8lt _) (u8lt _) _).mono ?_
                      rintro e w' ⟨rfl, rfl⟩
                      go_simp
                      refine hK.out _ _ (fun _ => hS) ?_
                      clear hK K
                      refine wpU_all [28] (by kernel_rfl) (by simp) ?_
                      refine ReadyU.cons rfl (fun K hK => ?_) (ReadyU.nil)
                      go_simp
                      refine hK.out _ _ (fun _ => hS) ?_
                      clear hK K
                      refine wpU_all [29] (by kernel_rfl) (by simp) ?_
                      refine ReadyU.cons rfl (fun K hK => ?_) (ReadyU.nil)
                      go_simp
                      refine hK.out _ _ (fun h => Bool.noConfusion (show true = false from h)) ?_
                      clear hK K
                      refine wpU_pure (i := 30) (v := ?_) rfl (by kernel_rfl) (by kernel_rfl) (by kernel_rfl) (by decide) (fun _ _ _ h => h) (fun h => Bool.noConfusion (show true = false from h)) (Or.inl ⟨by rfl, fun _ _ => ?_⟩) ?_
                      rotate_left
                      · go_simp
                        try with_reducible rfl
                      try simp only [Act.put]
                      refine wpU_all [31] (by kernel_rfl) (by simp) ?_
                      refine ReadyU.cons rfl (fun K hK => ?_) (ReadyU.nil)
                      go_simp
                      refine hK.out _ _ (fun h => Bool.noConfusion (show true = false from h)) ?_
                      clear hK K
                      refine wpU_done (by kernel_rfl) ?_ _
                      exact cut_end ST2.out (by kernel_rfl)
                    · intro us3 w6 h6
                      have H6 := Lib.hid h6
                      clear h6 c1 c2 d1 d2 u1 u2
                      simp only [setAll, List.foldl_cons, List.foldl_nil, List.set_cons_zero, List.set_cons_succ]
                      go_wp2_with fail
                      exact ⟨⟨k + 1, by omega, by go_num, H6⟩, by simp [intOf]; omega⟩
                  · obtain rfl : k = n := by omega
                    have hR := HK.out
                    have m1 := mix_all (new := nx) (old := ox) (by rw [HL.out.2.2.1, HL.out.1])
                    have m2 := mix_all (new := ny) (old := oy) (by rw [HL.out.2.2.2, HL.out.2.1])
                    rw [HL.out.1] at m1
                    rw [HL.out.2.1] at m2
                    rw [m1, m2] at hR
                    obtain ⟨x2, hx2⟩ : ∃ x2, x1.set c nx = x2 := ⟨_, rfl⟩
                    obtain ⟨y2, hy2⟩ : ∃ y2, y1.set c ny = y2 := ⟨_, rfl⟩
                    have h2 := H2.out
                    rw [HSC.out.1, HSC.out.2, hx2, hy2] at h2
                    rw [hx2, hy2] at hR
                    have H3 := Lib.hid h2
                    have HR6 := Lib.hid hR
                    clear m1 m2 hR hx2 hy2 h2 hltk
                    go_wp2_with fail
                    go_loopw [12] (fun v12 wq => ∃ r : Nat, r ≤ k ∧ v12 = .int .i64 (r : Nat) ∧ Hid (XY w1 wq B1 B2 B3 k gx gy cx cy (Mat.clear x2 c (fun i => Mat.en x2 i c) r) (Mat.clear y2 c (fun i => Mat.en x2 i c) r))) (fun v12 _ => (k - intOf v12).toNat)
                    case atStart => exact ⟨0, by omega, rfl, Lib.hid (by rw [Mat.clear_zero, Mat.clear_zero]; exact HR6.out)⟩
                    case round =>
                      obtain ⟨r, hr, rfl, HQ⟩ := hrel
                      rename World => wq
                      by_cases hltr : r < k
                      · have hltr' : (r : Int) < (k : Int) := by omega
                        obtain ⟨CX, hCX⟩ : ∃ CX, Mat.clear x2 c (fun i => Mat.en x2 i c) r = CX := ⟨_, rfl⟩
                        obtain ⟨CY, hCY⟩ : ∃ CY, Mat.clear y2 c (fun i => Mat.en x2 i c) r = CY := ⟨_, rfl⟩
                        have sx2 := HR6.out.sx
                        have sy2 := HR6.out.sy
                        have hrx : CX.getD r [] = x2.getD r [] := by rw [← hCX]; exact Mat.clear_at sx2 hltr
                        have hcx : CX.getD c [] = x2.getD c [] := by rw [← hCX]; exact Mat.clear_piv sx2 hlt
                        have hcy : CY.getD c [] = y2.getD c [] := by rw [← hCY]; exact Mat.clear_piv sy2 hlt
                        have hsxx := Mat.clear_succ (g := fun i => Mat.en x2 i c) sx2 hlt hltr
                        have hsyy := Mat.clear_succ (g := fun i => Mat.en x2 i c) sy2 hlt hltr
                        rw [hCX] at hsxx
                        rw [hCY] at hsyy
                        have hQ := HQ.out
                        rw [hCX, hCY] at hQ
                        obtain ⟨b, rc, -, -, c1, c2, -, -⟩ := hQ.atX hltr hlt
                        have hen : Mat.en CX r c = Mat.en x2 r c := by show (CX.getD r []).getD c 0 = (x2.getD r []).getD c 0; rw [hrx]
                        rw [hen] at c2
                        obtain ⟨g, hg⟩ : ∃ g, Mat.en x2 r c = g := ⟨_, rfl⟩
                        rw [hg] at c2 hsxx hsyy
                        by_cases hgo : r ≠ c ∧ g ≠ 0
                        · obtain ⟨hrc, hg0⟩ := hgo
                          rw [if_neg hrc] at hsxx hsyy
                          have q1 : ((r : Int) != (c : Int)) = true := by simp; omega
                          have q2 : ((g.toNat : Int) != 0) = true := by
                            have : g.toNat ≠ 0 := fun h => hg0 (UInt8.toNat_inj.1 h)
                            simp; omega
                          obtain ⟨ox, hox⟩ : ∃ ox, CX.getD r [] = ox := ⟨_, rfl⟩
                          obtain ⟨oy, hoy⟩ : ∃ oy, CY.getD r [] = oy := ⟨_, rfl⟩
                          obtain ⟨px, hpx⟩ : ∃ px, CX.getD c [] = px := ⟨_, rfl⟩
                          obtain ⟨py, hpy⟩ : ∃ py, CY.getD c [] = py := ⟨_, rfl⟩
                          rw [hox, hpx] at hsxx
                          rw [hoy, hpy] at hsyy
                          obtain ⟨mx, hmx⟩ : ∃ mx, mad ox px g = mx := ⟨_, rfl⟩
                          obtain ⟨my, hmy⟩ : ∃ my, mad oy py g = my := ⟨_, rfl⟩
                          rw [hmx] at hsxx
                          rw [hmy] at hsyy
                          have lox : ox.length = k := by rw [← hox]; exact hQ.sx.row hltr
                          have loy : oy.length = k := by rw [← hoy]; exact hQ.sy.row hltr
                          have lpx : px.length = k := by rw [← hpx]; exact hQ.sx.row hlt
                          have lpy : py.length = k := by rw [← hpy]; exact hQ.sy.row hlt
                          have lmx : mx.length = ox.length := by rw [← hmx, mad_length]
                          have lmy : my.length = oy.length := by rw [← hmy, mad_length]
                          have SC := Lib.hid (And.intro hQ.sx hQ.sy)
                          have HS := Lib.hid (And.intro hsxx hsyy)
                          have HO := Lib.hid (And.intro hox (And.intro hoy (And.intro hpx hpy)))
                          have HM := Lib.hid (And.intro hmx hmy)
                          have HL2 := Lib.hid (And.intro lox (And.intro loy (And.intro lpx (And.intro lpy (And.intro lmx lmy)))))
                          have HQ2 := Lib.hid hQ
                          have RC := Lib.hid hrc
                          clear hQ hox hoy hpx hpy hmx hmy lox loy lpx lpy lmx lmy hsxx hsyy hrx hcx hcy hen hg hCX hCY sx2 sy2 HQ hrc hg0
                          go_wp2_with fail
                          clear c1 c2
                          go_loopw [14] (fun v14 wk => ∃ q : Nat, q ≤ k ∧ v14 = .int .i64 (q : Nat) ∧ Hid (XY w1 wk B1 B2 B3 k gx gy cx cy (CX.set r (mix mx ox q)) (CY.set r (mix my oy q)))) (fun v14 _ => (k - intOf v14).toNat)
                          case atStart => exact ⟨0, by omega, rfl, Lib.hid (by rw [mix_zero, mix_zero, ← HO.out.1, ← HO.out.2.1, Mat.set_self, Mat.set_self]; exact HQ2.out)⟩
                          case round =>
                            obtain ⟨q, hq, rfl, HK⟩ := hrel
                            rename World => wk
                            by_cases hltq : q < k
                            · have hltq' : (q : Int) < (k : Int) := by omega
                              obtain ⟨b, rc, lb1, -, c1, c2, u1, st⟩ := HK.out.atX hltr hltq
                              obtain ⟨bc, rd, -, -, d1, d2, -, -⟩ := HK.out.atX hlt hltq
                              have e1 : Mat.en (CX.set r (mix mx ox q)) r q = ox.getD q 0 := by
                                show ((CX.set r (mix mx ox q)).getD r []).getD q 0 = _
                                rw [Mat.set_getD _ _ _ _ (by rw [SC.out.1.1]; exact hltr), if_pos rfl, List.getD_eq_getElem?_getD, mix_at HL2.out.2.2.2.2.1 (by rw [HL2.out.1]; exact hltq)]; rfl
                              have e2 : Mat.en (CX.set r (mix mx ox q)) c q = px.getD q 0 := by
                                show ((CX.set r (mix mx ox q)).getD c []).getD q 0 = _
                                rw [Mat.set_getD _ _ _ _ (by rw [SC.out.1.1]; exact hltr), if_neg (fun e => RC.out e.symm), HO.out.2.2.1]
                              rw [e1] at c2
                              rw [e2] at d2
                              obtain ⟨o, hoo⟩ : ∃ o, ox.getD q 0 = o := ⟨_, rfl⟩
                              obtain ⟨t, htt⟩ : ∃ t, px.getD q 0 = t := ⟨_, rfl⟩
                              rw [hoo] at c2
                              rw [htt] at d2
                              have hgb := g8_bits o g t
                              have hmx := set_row_set CX k r q SC.out.1 hltr (mix mx ox q) (o ^^^ g8 g t)
                              rw [mix_step HL2.out.2.2.2.2.1 (by rw [HL2.out.1]; exact hltq) (by rw [← HM.out.1, Mat.mad_getD _ _ _ _ (by rw [HL2.out.1]; exact hltq) (by rw [HL2.out.2.2.1]; exact hltq), hoo, htt, Mat.g8_comm])] at hmx
                              have hstw : ∀ kk, XY w1 ((wk.drewN kk).setCell ⟨b, q, none⟩ (bv (o ^^^ g8 g t))) B1 B2 B3 k gx gy cx cy (CX.set r (mix mx ox (q + 1))) (CY.set r (mix my oy q)) := fun kk => by
                                have := (st (o ^^^ g8 g t)).drewN kk
                                rw [hmx] at this
                                exact this
                              have ST := Lib.hid (hstw 1)
                              clear hmx hstw st hoo htt e1 e2
                              go_wp2_with fail
                              go_still_tail 23, (by kernel_rfl)
                              still_call ((rmul_any _ _ (u8lt _) (u8lt _) _).mono (fun _ _ h => ⟨h.1, h.2.symm⟩))
                              repeat still_step
                              refine wpStill_nil ?_
                              change wpList _ _ _ _ _ (wk.drewN 1)
                              have c3 := (Ext.of_drawn wk 1).cell c2
                              have u3 : (wk.drewN 1).frozen? ⟨b, q, none⟩ = false := u1
                              generalize wk.drewN 1 = wd at c3 u3 ST ⊢
                              clear c1 c2 d1 d2 u1 hgb
                              go_wp2_with fail
                              clear c3 u3
                              rw [show bv (o ^^^ g8 g t) = .int .u8 ((o.toNat ^^^ (g8 g t).toNat : Nat) : Int) from by unfold bv; rw [UInt8.toNat_xor]] at ST
                              generalize wd.setCell ⟨b, q, none⟩ (.int .u8 ((o.toNat ^^^ (g8 g t).toNat : Nat) : Int)) = wm at ST ⊢
                              obtain ⟨b, rc, lb1, c1, c2, u1, st⟩ := ST.out.atY hltr hltq
                              obtain ⟨bc, rd, -, d1, d2, -, -⟩ := ST.out.atY hlt hltq
                              have e1 : Mat.en (CY.set r (mix my oy q)) r q = oy.getD q 0 := by
                                show ((CY.set r (mix my oy q)).getD r []).getD q 0 = _
                                rw [Mat.set_getD _ _ _ _ (by rw [SC.out.2.1]; exact hltr), if_pos rfl, List.getD_eq_getElem?_getD, mix_at HL2.out.2.2.2.2.2 (by rw [HL2.out.2.1]; exact hltq)]; rfl
                              have e2 : Mat.en (CY.set r (mix my oy q)) c q = py.getD q 0 := by
                                show ((CY.set r (mix my oy q)).getD c []).getD q 0 = _
                                rw [Mat.set_getD _ _ _ _ (by rw [SC.out.2.1]; exact hltr), if_neg (fun e => RC.out e.symm), HO.out.2.2.2]
                              rw [e1] at c2
                              rw [e2] at d2
                              obtain ⟨o, hoo⟩ : ∃ o, oy.getD q 0 = o := ⟨_, rfl⟩
                              obtain ⟨t, htt⟩ : ∃ t, py.getD q 0 = t := ⟨_, rfl⟩
                              rw [hoo] at c2
                              rw [htt] at d2
                              have hgb := g8_bits o g t
                              have hmx := set_row_set CY k r q SC.out.2 hltr (mix my oy q) (o ^^^ g8 g t)
                              rw [mix_step HL2.out.2.2.2.2.2 (by rw [HL2.out.2.1]; exact hltq) (by rw [← HM.out.2, Mat.mad_getD _ _ _ _ (by rw [HL2.out.2.1]; exact hltq) (by rw [HL2.out.2.2.2.1]; exact hltq), hoo, htt, Mat.g8_comm])] at hmx
                              have hstw : ∀ kk, XY w1 ((wm.drewN kk).setCell ⟨b, q, none⟩ (bv (o ^^^ g8 g t))) B1 B2 B3 k gx gy cx cy (CX.set r (mix mx ox (q + 1))) (CY.set r (mix my oy (q + 1))) := fun kk => by
                                have := (st (o ^^^ g8 g t)).drewN kk
                                rw [hmx] at this
                                exact this
                              have ST2 := Lib.hid (hstw 1)
                              clear hmx hstw st hoo htt e1 e2
                              go_wp2_with fail
                              go_still_tail 23, (by kernel_rfl)
                              still_call ((rmul_any _ _ (u8lt _) (u8lt _) _).mono (fun _ _ h => ⟨h.1, h.2.symm⟩))
                              repeat still_step
                              refine wpStill_nil ?_
                              change wpList _ _ _ _ _ (wm.drewN 1)
                              have c3 := (Ext.of_drawn wm 1).cell c2
                              have u3 : (wm.drewN 1).frozen? ⟨b, q, none⟩ = false := u1
                              generalize wm.drewN 1 = wd2 at c3 u3 ST2 ⊢
                              clear c1 c2 d1 d2 u1 hgb
                              go_wp2_with fail
                              exact ⟨⟨q + 1, by omega, by go_num, ST2⟩, by simp [intOf]; omega⟩
                            · obtain rfl : q = k := by omega
                              have hR := HK.out
                              have m1 := mix_all HL2.out.2.2.2.2.1
                              have m2 := mix_all HL2.out.2.2.2.2.2
                              rw [HL2.out.1] at m1
                              rw [HL2.out.2.1] at m2
                              rw [m1, m2, ← HS.out.1, ← HS.out.2] at hR
                              have HN := Lib.hid hR
                              clear m1 m2 hR hltq
                              go_wp2_with fail
                              exact ⟨⟨r + 1, by omega, by go_num, HN⟩, by simp [intOf]; omega⟩
                        · have hkeep : XY w1 wq B1 B2 B3 k gx gy cx cy (Mat.clear x2 c (fun i => Mat.en x2 i c) (r + 1)) (Mat.clear y2 c (fun i => Mat.en x2 i c) (r + 1)) := by
                            have hz : r = c ∨ (fun i => Mat.en x2 i c) r = 0 := by
                              by_cases e : r = c
                              · exact .inl e
                              · refine .inr ?_
                                show Mat.en x2 r c = 0
                                rw [hg]
                                by_cases e2 : g = 0
                                · exact e2
                                · exact absurd ⟨e, e2⟩ hgo
                            rw [Mat.clear_same sx2 hlt hltr hz, Mat.clear_same sy2 hlt hltr hz]
                            exact HQ.out
                          have HN := Lib.hid hkeep
                          have HG := Lib.hid hgo
                          clear hkeep hrx hcx hcy hen hg hCX hCY sx2 sy2 HQ hsxx hsyy hgo hQ
                          by_cases e : r = c
                          · have q1 : ((r : Int) != (c : Int)) = false := by rw [e]; simp
                            have E := Lib.hid e
                            clear e
                            go_wp2_with fail
                            clear c1 c2
                            go_loopw [14] (fun v14 wk => v14 = .int .i64 0 ∧ wk = wq) (fun _ _ => 0)
                            case atStart => exact ⟨rfl, rfl⟩
                            case round =>
                              obtain ⟨rfl, rfl⟩ := hrel
                              go_wp2_with fail
                              exact ⟨⟨r + 1, by omega, by go_num, HN⟩, by simp [intOf]; omega⟩
                          · have q1 : ((r : Int) != (c : Int)) = true := by simp; omega
                            have q2 : ((g.toNat : Int) != 0) = false := by
                              have e2 : g = 0 := by
                                by_cases e2 : g = 0
                                · exact e2
                                · exact absurd ⟨e, e2⟩ HG.out
                              rw [e2]; simp
                            have E := Lib.hid e
                            clear e
                            go_wp2_with fail
                            clear c1 c2
                            go_loopw [14] (fun v14 wk => v14 = .int .i64 0 ∧ wk = wq) (fun _ _ => 0)
                            case atStart => exact ⟨rfl, rfl⟩
                            case round =>
                              obtain ⟨rfl, rfl⟩ := hrel
                              go_wp2_with fail
                              exact ⟨⟨r + 1, by omega, by go_num, HN⟩, by simp [intOf]; omega⟩
                      · obtain rfl : r = k := by omega
                        clear hltr
                        go_wp2_with fail
                        exact ⟨⟨c + 1, _, _, by omega, by go_num, HQ, H3⟩, by simp [intOf]; omega⟩
        · obtain rfl : p = n := by omega
          have hpv : Mat.pv x p c = none := by rw [hJp.out, Nat.sub_self]; rfl
          have HN := Lib.hid (show Mat.minv p a = none by
            rw [hJ.out, show p - c = (p - (c + 1)) + 1 by omega]
            unfold Mat.gj
            rw [hpv])
          have HF := Lib.hid (Ext.trans X1.out (show Below w1.heap.size w1 wr by rw [HB.out.1]; exact HR.out.b))
          have q1 : ((p : Int) == (p : Int)) = true := by simp
          clear hpv hltp hlt'
          go_wp2_with fail
          go_ret2
          exact .inl ⟨HN.out, rfl, HF.out⟩
    · obtain rfl : c = n := by omega
      have HJ := Lib.hid (show Mat.minv c a = some y by rw [hJ.out, Nat.sub_self]; rfl)
      have HF := Lib.hid (Ext.trans X1.out (show Below w1.heap.size w1 wr by rw [HB.out.1]; exact HR.out.b))
      have HY := Lib.hid (show RA wr w.heap.size wr.heap.size (.slice (some ⟨gy, 0, none⟩) c cy) y from HR.out.ry.mono (by rw [← HB.out.2.1]; exact Nat.le_trans X1.out.size X2.out.size) HR.out.tp)
      clear hlt hJ
      go_wp2_with fail
      go_ret2
      exact .inr ⟨y, _, HJ.out, rfl, HY.out, HF.out⟩
end Go.Proofs.YthkbbcdnmdjhdaaGreat
/-! XRefE: The reference's Systematic. -/
namespace Go.Proofs.YthkbbcdnmdjhdaaGreat
open Go.RowKit Gf
set_option maxRecDepth 100000
set_option maxHeartbeats 4000000
attribute [local go_sem] min_int2 max_int2

theorem rsys_any (k m : Nat) (h1 : 1 ≤ k) (h2 : 1 ≤ m) (h3 : k + m ≤ 255) (w : World) :
    Calls Tryz.prog 125 #[.int .i64 k, .int .i64 m] w fun e w' => ∃ x u, Mat.sys k m = some x ∧ e = .returned (.tuple #[u, .bool true]) ∧ RA w' w.heap.size w'.heap.size u x ∧ Ext w w' := by
  obtain ⟨top, ht, hs⟩ := Mat.sys_some k m (by omega)
  obtain ⟨q, hq⟩ : ∃ q, k + m = q := ⟨_, rfl⟩
  have hqi : (k : Int) + (m : Int) = (q : Int) := by omega
  have HS := Lib.hid hs
  have HT := Lib.hid ht
  have HQ := Lib.hid hq
  have b1 : k < q := by omega
  have b2 : q ≤ 255 := by omega
  have s1 := Mat.vand_take k m k
  rw [hq] at s1
  have S1 := Lib.hid s1
  clear hs ht hq s1
  go_enter Tryz.func125, Tryz.ntmps125
  go_wp2_with fail
  refine (rvand_any q k (by omega) b2 h1 (by omega) _).mono ?_; rintro e w1 ⟨u, rfl, hO, x1⟩
  have hbr := hO.brows
  obtain ⟨va, vc, rfl⟩ := hbr.form
  rw [(Mat.vand_sh q k).1] at hbr ⊢
  have HO := Lib.hid hbr
  have X1 := Lib.hid x1
  clear hO x1 hbr
  have hcap : q ≤ vc := by
    obtain ⟨vs, ⟨a', cap', e, hl, -⟩, h2, -⟩ := HO.out
    simp only [Value.slice.injEq] at e
    omega
  go_wp2_with fail
  have hB1 := HO.out.take k (by omega)
  rw [S1.out] at hB1
  have HB1 := Lib.hid hB1
  clear hB1
  refine (rinvert_any _ (Mat.vand k k) k ⟨h1, by omega⟩ (Mat.vand_sh k k) _ HB1.out).mono ?_
  rintro e w2 (⟨hn, -, -⟩ | ⟨z, gz, hz, rfl, hZ, x2⟩)
  · rw [HT.out] at hn; cases hn
  · rw [HT.out] at hz
    cases hz
    have HZ := Lib.hid hZ
    have X2 := Lib.hid x2
    clear hZ x2
    go_wp2_with fail
    have zsh := (Mat.minv_spec (Mat.vand_sh k k) HT.out).1
    refine (rmulm_any _ _ (Mat.vand q k) top q k k ⟨by omega, b2⟩ ⟨h1, by omega⟩ ⟨h1, by omega⟩ (Mat.vand_sh q k) zsh _ (HO.out.ext X2.out) HZ.out.brows).mono ?_
    rintro e w3 ⟨g3, rfl, hM, x3⟩
    have HM := Lib.hid (hM.mono (Nat.le_trans X1.out.size X2.out.size) (Nat.le_refl _))
    have X3 := Lib.hid (Ext.trans (Ext.trans X1.out X2.out) x3)
    have HS2 := Lib.hid (HQ.out ▸ HS.out)
    clear hM x3 zsh
    go_wp2_with fail
    go_ret2
    exact ⟨_, g3, HS2.out, rfl, HM.out, X3.out⟩
theorem rsys_no (k m : Int) (h : ¬ (1 ≤ k ∧ 1 ≤ m ∧ k + m ≤ 255)) (w : World) :
    Calls Tryz.prog 125 #[.int .i64 k, .int .i64 m] w fun e w' => e = .returned (.tuple #[.slice none 0 0, .bool false]) ∧ w = w' := by
  have key : k < 1 ∨ (1 ≤ k ∧ m < 1) ∨ (1 ≤ k ∧ 1 ≤ m ∧ 255 < k) ∨ (1 ≤ k ∧ 1 ≤ m ∧ k ≤ 255 ∧ 255 - k < m) := by omega
  clear h
  rcases key with h1 | ⟨h1, h2⟩ | ⟨h1, h2, h3⟩ | ⟨h1, h2, h3, h4⟩
  all_goals
    go_enter Tryz.func125, Tryz.ntmps125
    go_wp2_with fail
    go_ret2
    exact ⟨rfl, rfl⟩
end Go.Proofs.YthkbbcdnmdjhdaaGreat
