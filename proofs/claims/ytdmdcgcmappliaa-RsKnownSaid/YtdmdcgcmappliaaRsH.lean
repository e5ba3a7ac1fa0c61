/-
  rs: shards of unlike lengths, too few or too many of them.
-/
import Derived.Test.YtdmdcgcmappliaaRsG
namespace Go.Proofs.Ytdmdcgcmappliaa
open Go.RowKit Gf
set_option maxRecDepth 100000
set_option maxHeartbeats 4000000
attribute [local go_sem] min_int2 max_int2

theorem there_no (v : Value) (S : List (List UInt8)) (hl : S.length ≤ 70000) (hn : ¬ ∃ n, ∀ r ∈ S, r.length = 0 ∨ r.length = n) (w : World) (hV : BRows w v S) :
    Calls Try.prog 61 #[v] w fun e w' => e = .returned (.tuple #[.slice none 0 0, .int .i64 0, .bool false]) ∧ Ext w w' := by
  obtain ⟨a, cap, rfl⟩ := hV.form
  have HV := Lib.hid hV
  have HN := Lib.hid hn
  clear hV hn
  go_enter Try.func61, Try.ntmps61
  go_wp2_with fail
  go_loopw [5, 6, 11] (fun v5 v6 v11 wr => ∃ (i m : Nat) (L : List Nat) (xa : Option Addr) (xc : Nat), i ≤ S.length ∧ v11 = .int .i64 (i : Nat) ∧ v6 = .int .i64 (m : Nat) ∧ v5 = .slice xa L.length xc ∧ Hid (idxTo S i = L ∧ (m = 0 → L = []) ∧ ∀ j, j < i → (S.getD j []).length = 0 ∨ (S.getD j []).length = m) ∧ Hid (Own wr w.heap.size 3 (.slice xa L.length xc) (ivs (L.map Int.ofNat))) ∧ Ext w wr) (fun _ _ v11 _ => (S.length - intOf v11).toNat)
  case atStart => exact ⟨0, 0, [], _, _, by omega, rfl, rfl, rfl, Lib.hid ⟨rfl, fun _ => rfl, fun j h => by omega⟩, Lib.hid (Own.nil _ _ _), Ext.refl _⟩
  case round =>
    obtain ⟨i, m, L, xa, xc, hi, rfl, rfl, rfl, hJ, hO, hE⟩ := hrel
    by_cases hlt : i < S.length
    · have hlt' : (i : Int) < (S.length : Int) := by omega
      obtain ⟨rb, ro, ra, rc, rfl, c1, -⟩ := (HV.out.ext hE).at (List.getElem?_eq_getElem hlt)
      obtain ⟨p, hp⟩ : ∃ p, S[i].length = p := ⟨_, rfl⟩
      have hpd : (S.getD i []).length = p := by rw [Mat.getD_lt hlt []]; exact hp
      rw [hp] at c1
      have HPD := Lib.hid hpd
      have hLl : L.length ≤ i := by
        rw [← hJ.out.1]
        unfold idxTo
        exact Nat.le_trans (List.length_filter_le _ _) (by simp)
      have hs := idxTo_succ S i
      rw [hpd, hJ.out.1] at hs
      by_cases hp0 : p = 0
      · rw [if_neg (by omega)] at hs
        have q1 : ((p : Int) == 0) = true := beq_iff_eq.2 (by omega)
        have HS := Lib.hid hs
        have HP0 := Lib.hid hp0
        clear hs hpd hp hp0
        go_wp2_with fail
        exact ⟨⟨i + 1, m, L, _, _, by omega, by go_num, rfl, rfl, Lib.hid ⟨HS.out, hJ.out.2.1, fun j hj => by
          by_cases e : j = i
          · subst e; left; rw [HPD.out]; exact HP0.out
          · exact hJ.out.2.2 j (by omega)⟩, hO, hE⟩, by simp [intOf]; omega⟩
      · rw [if_pos (by omega)] at hs
        have q1 : ((p : Int) == 0) = false := beq_eq_false_iff_ne.2 (by omega)
        have hp1 : (0 : Int) < (p : Int) := by omega
        have HS := Lib.hid hs
        have W : Hid (idxTo S (i + 1) = L ++ [i] ∧ (m = 0 ∨ m = p → (p = 0 → L ++ [i] = []) ∧ ∀ j, j < i + 1 → (S.getD j []).length = 0 ∨ (S.getD j []).length = p)) := Lib.hid ⟨hs, fun hm => ⟨fun h => by omega, fun j hj => by
          by_cases e : j = i
          · subst e; exact .inr hpd
          · rcases hm with hm | hm
            · have hL := hJ.out.2.1 hm
              rw [hL] at hJ
              have h1 := hJ.out.1
              refine .inl ?_
              by_cases h2 : 0 < (S.getD j []).length
              · have h3 : j ∈ idxTo S i := by
                  unfold idxTo
                  rw [List.mem_filter, List.mem_range]
                  exact ⟨by omega, decide_eq_true h2⟩
                rw [h1] at h3
                cases h3
              · omega
            · have := hJ.out.2.2 j (by omega)
              rw [hm] at this
              exact this⟩⟩
        have hm : m = 0 ∨ m = p ∨ (m ≠ 0 ∧ m ≠ p) := by omega
        clear hs hpd hp hp0
        rcases hm with rfl | rfl | ⟨hm1, hm2⟩
        · have W := Lib.hid (And.intro W.out.1 (W.out.2 (.inl rfl)))
          have hB0 := Lib.hid (And.intro hO.out (And.intro hE.size hLl))
          go_wp2_with (at_builtin; refine list_of_wp rfl fun K hK => wp_int1 _ _ rfl rfl rfl rfl hB0.out.1 hB0.out.2.1 (by have := hB0.out.2.2; omega) fun ad c w7 hN hB7 => hK _ _ ?_)
          have HN := Lib.hid (show Own w7 w.heap.size 3 (.slice ad (L ++ [i]).length c) (ivs ((L ++ [i]).map Int.ofNat)) from by rw [List.length_append]; exact hN)
          have hE7 := Below.trans hE hB7
          clear hN hB7
          go_wp2_with fail
          exact ⟨⟨i + 1, p, L ++ [i], ad, c, by omega, by go_num, rfl, by rw [List.length_append]; rfl, W, HN, hE7⟩, by simp [intOf]; omega⟩
        · have q2 : ((m : Int) != (m : Int)) = false := by simp
          have W := Lib.hid (And.intro W.out.1 (W.out.2 (.inr rfl)))
          have hB0 := Lib.hid (And.intro hO.out (And.intro hE.size hLl))
          go_wp2_with (at_builtin; refine list_of_wp rfl fun K hK => wp_int1 _ _ rfl rfl rfl rfl hB0.out.1 hB0.out.2.1 (by have := hB0.out.2.2; omega) fun ad c w7 hN hB7 => hK _ _ ?_)
          have HN := Lib.hid (show Own w7 w.heap.size 3 (.slice ad (L ++ [i]).length c) (ivs ((L ++ [i]).map Int.ofNat)) from by rw [List.length_append]; exact hN)
          have hE7 := Below.trans hE hB7
          clear hN hB7
          go_wp2_with fail
          exact ⟨⟨i + 1, m, L ++ [i], ad, c, by omega, by go_num, rfl, by rw [List.length_append]; rfl, W, HN, hE7⟩, by simp [intOf]; omega⟩
        · have q2 : ((p : Int) != (m : Int)) = true := (bne_len _ _).trans (decide_eq_true (fun h => hm2 h.symm))
          have q3 : (0 : Int) < (m : Int) := by omega
          clear hm1 hm2
          go_wp2_with fail
          go_ret3
          exact ⟨rfl, hE⟩
    · refine absurd ⟨m, fun r hr => ?_⟩ HN.out
      obtain ⟨j, hj⟩ := List.getElem?_of_mem hr
      have hj2 := (List.getElem?_eq_some_iff.1 hj).1
      have h3 := hJ.out.2.2 j (by omega)
      rw [Mat.getD_lt hj2 [], (List.getElem?_eq_some_iff.1 hj).2] at h3
      exact h3

theorem reb_uneven (cb k nn : Nat) (X : Mat.M) (vs : Value) (S : Mat.M) (hX : CodeMat X k nn) (hS : S.length = nn) (hSn : ¬ ∃ n, ∀ r ∈ S, r.length = 0 ∨ r.length = n) (w : World) (h : CodeAt w cb k nn X) (hV : BRows w vs S) :
    Calls Try.prog 37 #[.pointer (some ⟨cb, 0, none⟩), vs] w fun e w' => e = .returned (.tuple #[.slice none 0 0, .int .i64 1]) ∧ Ext w w' := by
  obtain ⟨va, vc, rfl⟩ := hV.form
  have k1 := hX.k1
  have n2 := hX.n255
  rw [hS] at hV ⊢
  have HC := Lib.hid h
  have HV := Lib.hid hV
  have HS := Lib.hid (And.intro hS hSn)
  have hk0 : ((k : Int) == 0) = false := beq_eq_false_iff_ne.2 (by omega)
  have hnn : ((nn : Int) != (nn : Int)) = false := by simp
  obtain ⟨xg, t, c0, c1, -, -, -, -⟩ := h.cells
  clear h hV hX hS hSn
  go_enter Try.func37, Try.ntmps37
  go_wp2_with fail
  refine (rsK_any cb k nn X _ HC.out).mono ?_; rintro e w' ⟨rfl, rfl⟩
  go_wp2_with fail
  refine (there_no _ S (by rw [HS.out.1]; omega) HS.out.2 _ HV.out).mono ?_; rintro e w1 ⟨rfl, x1⟩
  have X1 := Lib.hid x1
  clear x1 c0 c1
  go_wp2_with fail
  go_ret2
  exact ⟨rfl, X1.out⟩
theorem reb_len (cb k nn : Nat) (X : Mat.M) (vs : Value) (S : Mat.M) (hk : 1 ≤ k) (hS : S.length ≠ nn) (w : World) (h : CodeAt w cb k nn X) (hV : BRows w vs S) :
    Calls Try.prog 37 #[.pointer (some ⟨cb, 0, none⟩), vs] w fun e w' => e = .returned (.tuple #[.slice none 0 0, .int .i64 1]) ∧ w = w' := by
  obtain ⟨va, vc, rfl⟩ := hV.form
  have HC := Lib.hid h
  have hk0 : ((k : Int) == 0) = false := beq_eq_false_iff_ne.2 (by omega)
  have hnn : ((S.length : Int) != (nn : Int)) = true := (bne_len _ _).trans (decide_eq_true hS)
  obtain ⟨xg, t, c0, c1, -, -, -, -⟩ := h.cells
  clear h hV hS
  go_enter Try.func37, Try.ntmps37
  go_wp2_with fail
  refine (rsK_any cb k nn X _ HC.out).mono ?_; rintro e w' ⟨rfl, rfl⟩
  go_wp2_with fail
  go_ret2
  exact ⟨rfl, rfl⟩
end Go.Proofs.Ytdmdcgcmappliaa
