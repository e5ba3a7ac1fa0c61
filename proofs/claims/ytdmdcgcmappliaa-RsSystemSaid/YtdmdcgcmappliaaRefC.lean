/-
  The reference's MulMatrix.
-/
import Derived.Test.YtdmdcgcmappliaaRefB
import Derived.StillTailTactics
namespace Go.Proofs.Ytdmdcgcmappliaa
open Go.RowKit Gf
set_option maxRecDepth 100000
set_option maxHeartbeats 4000000
attribute [local go_sem] min_int2 max_int2

/-- The first c of the new row, the others of the old one. -/
def mix (new old : List UInt8) (c : Nat) : List UInt8 := new.take c ++ old.drop c
theorem mix_zero (new old : List UInt8) : mix new old 0 = old := rfl
theorem mix_len {new old : List UInt8} (h : new.length = old.length) {c : Nat} (hc : c ≤ old.length) : (mix new old c).length = old.length := by
  unfold mix
  rw [List.length_append, List.length_take, List.length_drop]
  omega
theorem mix_all {new old : List UInt8} (h : new.length = old.length) : mix new old old.length = new := by
  unfold mix
  rw [List.drop_length, List.append_nil, ← h, List.take_length]
theorem mix_at {new old : List UInt8} (h : new.length = old.length) {c : Nat} (hc : c < old.length) : (mix new old c)[c]? = some (old.getD c 0) := by
  unfold mix
  rw [List.getElem?_append_right (by rw [List.length_take]; omega), List.length_take, h, Nat.min_eq_left (by omega), Nat.sub_self, List.getElem?_drop, Nat.add_zero, List.getElem?_eq_getElem hc, Mat.getD_lt hc]
theorem mix_step {new old : List UInt8} (h : new.length = old.length) {c : Nat} (hc : c < old.length) {x : UInt8} (hx : x = new.getD c 0) : (mix new old c).set c x = mix new old (c + 1) := by
  subst hx
  apply List.ext_getElem?
  intro j
  have h1 := mix_len h (Nat.le_of_lt hc)
  rw [List.getElem?_set]
  unfold mix at h1 ⊢
  by_cases e : c = j
  · subst e
    rw [if_pos rfl, if_pos (by rw [h1]; exact hc), List.getElem?_append_left (by rw [List.length_take]; omega), List.getElem?_take, if_pos (by omega), List.getElem?_eq_getElem (by omega), Mat.getD_lt (by omega)]
  · rw [if_neg e]
    by_cases hj : j < c
    · rw [List.getElem?_append_left (by rw [List.length_take]; omega), List.getElem?_append_left (by rw [List.length_take]; omega), List.getElem?_take, List.getElem?_take, if_pos hj, if_pos (by omega)]
    · rw [List.getElem?_append_right (by rw [List.length_take]; omega), List.getElem?_append_right (by rw [List.length_take]; omega), List.length_take, List.length_take, List.getElem?_drop, List.getElem?_drop]
      congr 1
      omega
theorem BRows.entry {w : World} {a : Option Addr} {n cap : Nat} {ls : Mat.M} (h : BRows w (.slice a n cap) ls) {i j k : Nat} (hi : i < ls.length) (hk : (ls.getD i []).length = k) (hj : j < k) :
    ∃ b o rb ro rc, a = some ⟨b, o, none⟩ ∧ w.cell? ⟨b, o + i, none⟩ = some (.slice (some ⟨rb, ro, none⟩) k rc) ∧ w.cell? ⟨rb, ro + j, none⟩ = some (bv (Mat.en ls i j)) := by
  obtain ⟨b, o, ra, rc, e, c1, hb⟩ := h.at (List.getElem?_eq_getElem hi)
  have hl : ls[i].length = k := by rw [← hk, Mat.getD_lt hi []]
  rw [hl] at c1 hb
  obtain ⟨rb, ro, rfl, c2⟩ := hb.at (bvs_get (l := ls[i]) (j := j) (by omega))
  refine ⟨b, o, rb, ro, rc, e, c1, ?_⟩
  unfold Mat.en
  rw [Mat.getD_lt hi [], Mat.getD_lt (by omega : j < ls[i].length) 0]
  exact c2
theorem rmulm_any (va vb : Value) (a b : Mat.M) (n k m : Nat) (hn : 1 ≤ n ∧ n ≤ 255) (hk : 1 ≤ k ∧ k ≤ 255) (hm : 1 ≤ m ∧ m ≤ 255) (ha : Mat.Sh a n k) (hb : Mat.Sh b k m) (w : World) (hA : BRows w va a) (hB : BRows w vb b) :
    Calls Try.prog 57 #[va, vb] w fun e w' => ∃ u, e = .returned (.tuple #[u, .bool true]) ∧ RA w' w.heap.size w'.heap.size u (Mat.mmul a b m) ∧ Ext w w' := by
  obtain ⟨aa, ac, rfl⟩ := hA.form
  obtain ⟨ba, bc, rfl⟩ := hB.form
  rw [ha.1] at hA ⊢
  rw [hb.1] at hB ⊢
  obtain ⟨n1, n2⟩ := hn
  obtain ⟨k1, k2⟩ := hk
  obtain ⟨m1, m2⟩ := hm
  have SA := Lib.hid ha
  have SB := Lib.hid hb
  have HA := Lib.hid hA
  have HB := Lib.hid hB
  clear ha hb hA hB
  go_enter Try.func57, Try.ntmps57
  have hmk := make_byt m (by omega)
  go_wp2_with fail
  refine (rgood_any _ a true ⟨fun _ => ⟨n, k, n1, n2, k1, k2, SA.out⟩, fun _ => rfl⟩ _ HA.out).mono ?_; rintro e w1 ⟨rfl, x1⟩
  have HB1 := Lib.hid (HB.out.ext x1)
  have X1 := Lib.hid x1
  clear x1
  go_wp2_with fail
  refine (rgood_any _ b true ⟨fun _ => ⟨k, m, k1, k2, m1, m2, SB.out⟩, fun _ => rfl⟩ _ HB1.out).mono ?_; rintro e w2 ⟨rfl, x2⟩
  have HB2 := Lib.hid (HB1.out.ext x2)
  have X2 := Lib.hid (Ext.trans X1.out x2)
  have HA2 := Lib.hid (HA.out.ext X2.out)
  clear x2
  have g0 := SA.out.get (show 0 < n by omega)
  obtain ⟨ab, ao, ra0, rc0, rfl, c0, -⟩ := HA2.out.at g0.1
  rw [Nat.add_zero, g0.2] at c0
  have q1 : ((k : Int) != (k : Int)) = false := by simp
  clear g0
  go_wp2_with fail
  clear c0
  go_loopw [6, 7] (fun v6 v7 wr => ∃ (i : Nat) (xa : Option Addr) (xc : Nat), i ≤ n ∧ v7 = .int .i64 (i : Nat) ∧ v6 = .slice xa i xc ∧ Hid (RA wr w.heap.size wr.heap.size (.slice xa i xc) ((Mat.mmul a b m).take i)) ∧ Ext w wr) (fun _ v7 _ => (n - intOf v7).toNat)
  case atStart => exact ⟨0, _, _, by omega, rfl, rfl, Lib.hid (by rw [List.take_zero]; exact RA.nil _ _ _), X2.out⟩
  case round =>
    obtain ⟨i, xa, xc, hi, rfl, rfl, hR, hBr⟩ := hrel
    by_cases hlt : i < n
    · have hlt' : (i : Int) < (n : Int) := by omega
      have g0 := SB.out.get (show 0 < k by omega)
      obtain ⟨bb, bo, rb0, rc0, rfl, d0, -⟩ := (HB.out.ext hBr).at g0.1
      rw [Nat.add_zero, g0.2] at d0
      clear g0
      go_wp2_with fail
      have HAr := Lib.hid (HA.out.ext hBr)
      have HBr := Lib.hid (HB.out.ext hBr)
      have o0 : Own (wr.alloc (.cells (Array.replicate m (.int .u8 0)) 5)) wr.heap.size 5 (.slice (some ⟨wr.heap.size, 0, none⟩) m m) (bvs (List.replicate m 0)) := by
        have h := Own.new wr wr.heap.size 5 (Array.replicate m (.int .u8 0)) (Nat.le_refl _) (by simp [maxLen]; omega)
        have e : (Array.replicate m (Value.int .u8 0)).toList = bvs (List.replicate m 0) := by simp
        rw [e] at h
        simpa using h
      have x5 : Ext wr (wr.alloc (.cells (Array.replicate m (.int .u8 0)) 5)) := (Ext.refl wr).alloc (Nat.le_refl _) _
      generalize wr.alloc (.cells (Array.replicate m (.int .u8 0)) 5) = w5 at o0 x5 ⊢
      obtain ⟨q, hq⟩ : ∃ q, wr.heap.size = q := ⟨_, rfl⟩
      rw [hq] at o0 ⊢
      have HQ := Lib.hid hq
      have O0 := Lib.hid o0
      have X5 := Lib.hid x5
      obtain ⟨r, hr⟩ : ∃ r, a.getD i [] = r := ⟨_, rfl⟩
      have hrl : r.length = k := by rw [← hr]; exact SA.out.row hlt
      have HRL := Lib.hid (And.intro hr hrl)
      clear o0 x5 hq hr hrl d0 hmk
      go_loopw [9] (fun v9 wk => ∃ p : Nat, p ≤ k ∧ v9 = .int .i64 (p : Nat) ∧ Hid (Own wk q 5 (.slice (some ⟨q, 0, none⟩) m m) (bvs (Mat.rowk r b m p)) ∧ Ext wr wk)) (fun v9 _ => (k - intOf v9).toNat)
      case atStart => exact ⟨0, by omega, rfl, Lib.hid ⟨O0.out, X5.out⟩⟩
      case round =>
        obtain ⟨p, hp, rfl, hRk⟩ := hrel
        rename World => wk
        by_cases hltp : p < k
        · have hltp' : (p : Int) < (k : Int) := by omega
          go_wp2_with fail
          go_loopw [10] (fun v10 wc => ∃ c : Nat, c ≤ m ∧ v10 = .int .i64 (c : Nat) ∧ Hid (Own wc q 5 (.slice (some ⟨q, 0, none⟩) m m) (bvs (mix (Mat.rowk r b m (p + 1)) (Mat.rowk r b m p) c)) ∧ Ext wr wc)) (fun v10 _ => (m - intOf v10).toNat)
          case atStart => exact ⟨0, by omega, rfl, Lib.hid ⟨by rw [mix_zero]; exact hRk.out.1, hRk.out.2⟩⟩
          case round =>
            obtain ⟨c, hc, rfl, hRc⟩ := hrel
            rename World => wc
            have ml : (Mat.rowk r b m (p + 1)).length = (Mat.rowk r b m p).length := by rw [Mat.rowk_len, Mat.rowk_len]
            by_cases hltc : c < m
            · have hltc' : (c : Int) < (m : Int) := by omega
              obtain ⟨ab', ao', rab, rao, rac, e1, c1, c2⟩ := (HAr.out.ext hRc.out.2).entry (i := i) (j := p) (by rw [SA.out.1]; exact hlt) (by rw [HRL.out.1]; exact HRL.out.2) hltp
              obtain ⟨bb', bo', rbb, rbo, rbc, e2, c3, c4⟩ := (HBr.out.ext hRc.out.2).entry (i := p) (j := c) (by rw [SB.out.1]; exact hltp) (SB.out.row hltp) hltc
              simp only [Option.some.injEq, Addr.mk.injEq, and_true] at e1 e2
              obtain ⟨rfl, rfl⟩ := e1
              obtain ⟨rfl, rfl⟩ := e2
              have ho := mix_at ml (c := c) (by rw [Mat.rowk_len]; exact hltc)
              have hpt := hRc.out.1.parts
              obtain ⟨o, hoo⟩ : ∃ o, (Mat.rowk r b m p).getD c 0 = o := ⟨_, rfl⟩
              obtain ⟨x, hx⟩ : ∃ x, Mat.en a i p = x := ⟨_, rfl⟩
              obtain ⟨y, hy⟩ : ∃ y, Mat.en b p c = y := ⟨_, rfl⟩
              rw [hoo] at ho
              rw [hx] at c2
              rw [hy] at c4
              have c5 := hpt.2.2.2.2.2.1 c (bv o) (by rw [List.getElem?_map, ho]; rfl)
              have u5 := hpt.2.2.2.2.2.2 c
              have hgb := g8_bits o x y
              have hmx := mix_step ml (c := c) (x := o ^^^ g8 x y) (by rw [Mat.rowk_len]; exact hltc) (by
                show _ = (mad (Mat.rowk r b m p) (b.getD p []) (r.getD p 0)).getD c 0
                rw [Mat.mad_getD _ _ _ _ (by rw [Mat.rowk_len]; exact hltc) (by rw [SB.out.row hltp]; exact hltc), hoo, Mat.g8_comm, ← hx, ← hy, ← HRL.out.1]
                rfl)
              have HMX := Lib.hid hmx
              clear hmx ho hpt hoo hx hy ml
              go_wp2_with fail
              go_still_tail 23, (by kernel_rfl)
              still_call ((rmul_any _ _ (u8lt x) (u8lt y) _).mono (fun _ _ h => ⟨h.1, h.2.symm⟩))
              repeat still_step
              refine wpStill_nil ?_
              change wpList _ _ _ _ _ (wc.drewN 1)
              have c6 := (Ext.of_drawn wc 1).cell c5
              have HS := Lib.hid (hRc.out.1.ext (Ext.of_drawn wc 1))
              have hx6 := Lib.hid (Ext.trans hRc.out.2 (Ext.of_drawn wc 1))
              have u6 := HS.out.parts.2.2.2.2.2.2 c
              generalize wc.drewN 1 = wd at c6 u6 HS hx6 ⊢
              clear c1 c2 c3 c4 c5 u5
              have hst := HS.out.set c (bv (o ^^^ g8 x y))
              rw [bvs_set, HMX.out] at hst
              have HN := Lib.hid (And.intro hst (Below.set hx6.out (show wr.heap.size ≤ q from by rw [HQ.out]; exact Nat.le_refl _) c (bv (o ^^^ g8 x y))))
              clear hst
              go_wp2_with fail
              exact ⟨⟨c + 1, by omega, by go_num, HN⟩, by simp [intOf]; omega⟩
            · obtain rfl : c = m := by omega
              have hN := hRc.out.1
              have hma := mix_all ml
              rw [Mat.rowk_len] at hma
              rw [hma] at hN
              have HN := Lib.hid (And.intro hN hRc.out.2)
              clear hN hma ml hltc hltp' hlt'
              go_wp2_with fail
              exact ⟨⟨p + 1, by omega, by go_num, HN⟩, by simp [intOf]; omega⟩
        · obtain rfl : p = k := by omega
          have HO := Lib.hid hRk.out.1
          have HX := Lib.hid hRk.out.2
          have hib : i < a.length := by rw [SA.out.1]; exact hlt
          have HP : Hid ((Mat.mmul a b m).take i ++ [Mat.rowk r b m p] = (Mat.mmul a b m).take (i + 1)) := Lib.hid (by
            have hl : i < (Mat.mmul a b m).length := by rw [(Mat.mmul_sh SA.out).1]; exact hlt
            rw [List.take_add_one, List.getElem?_eq_getElem hl, ← Mat.getD_lt hl [], Mat.mmul_row SA.out hlt, HRL.out.1, SB.out.1]; rfl)
          have HL : Hid (((Mat.mmul a b m).take i).length ≤ 70000) := Lib.hid (by rw [List.length_take]; omega)
          have HQ2 : Hid (Own wk wr.heap.size 5 (.slice (some ⟨q, 0, none⟩) m m) (bvs (Mat.rowk r b m p))) := Lib.hid (by rw [HQ.out]; exact HO.out)
          have HLE := Lib.hid hBr.size
          clear hltp hlt' hib
          go_wp2_with (at_builtin; refine list_of_wp rfl fun K hK => wp_rowA _ _ 22 rfl Try.underlying22 rfl rfl rfl hR.out HX.out HQ2.out (Nat.le_refl _) HLE.out HL.out fun ad c w7 hN hB7 => hK _ _ ?_)
          rw [HP.out] at hN
          have HN := Lib.hid hN
          have hB8 := Lib.hid (Below.trans (Below.trans hBr (Below.mono HX.out hBr.size)) hB7)
          clear hN hB7
          go_wp2_with fail
          exact ⟨⟨i + 1, _, _, by omega, by go_num, rfl, HN, hB8.out⟩, by simp [intOf]; omega⟩
    · obtain rfl : i = n := by omega
      have hN := hR.out
      rw [List.take_of_length_le (by rw [(Mat.mmul_sh SA.out).1]; exact Nat.le_refl _)] at hN
      have HN := Lib.hid hN
      have HF := Lib.hid hBr
      clear hN hlt hmk
      go_wp2_with fail
      go_ret2
      exact ⟨_, rfl, HN.out, HF.out⟩
end Go.Proofs.Ytdmdcgcmappliaa
