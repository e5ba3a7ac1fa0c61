/-
  What the parts of StripeCuts answer at all numbers; the reference's Same.
-/
import Derived.Test.YtflockpdojjgeaaStrE
import Derived.Test.YtflockpdojjgeaaStrF
import Derived.Test.YtflockpdojjgeaaStrN
namespace Go.Proofs.Ytflockpdojjgeaa
open Go.RowKit
set_option maxRecDepth 100000
set_option maxHeartbeats 4000000
attribute [local go_sem] min_int2 max_int2 bstr_toList

theorem nil_rows (w : World) : BRows w (.slice none 0 0) [] := ⟨[], Cells.nil w, rfl, by simp⟩
open Classical in
noncomputable def cutOk (n : Nat) (K B : Int) : Bool := decide (May n K B)
open Classical in
noncomputable def cutRows (D : List UInt8) (K B : Int) : List (List UInt8) := if May D.length K B then Stripe.rows D K.toNat B.toNat else []
def JoinMay (ls : List (List UInt8)) (S B : Int) : Prop := May S ls.length B ∧ ∀ r ∈ ls, r.length = Stripe.len S.toNat ls.length B.toNat
open Classical in
noncomputable def joinOk (ls : List (List UInt8)) (S B : Int) : Bool := decide (JoinMay ls S B)
open Classical in
noncomputable def joinOut (ls : List (List UInt8)) (S B : Int) : List UInt8 := if JoinMay ls S B then (Stripe.join ls (Stripe.len S.toNat ls.length B.toNat) B.toNat 0).take S.toNat else []
open Classical in
noncomputable def lenOut (S K B : Int) : Int := if May S K B then (Stripe.len S.toNat K.toNat B.toNat : Nat) else 0

theorem split_tot (v : Value) (D : List UInt8) (K B : Int) (w : World) (hD : Bytes w v D) :
    Calls Try.prog 15 #[v, .int .i64 K, .int .i64 B] w fun e w' => ∃ x, e = .returned (.tuple #[x, .bool (cutOk D.length K B)]) ∧ BRows w' x (cutRows D K B) ∧ Ext w w' := by
  unfold cutOk cutRows
  by_cases h : May D.length K B
  · simp only [h, decide_true, if_true]
    have h1 := h
    unfold May at h1
    obtain ⟨k, rfl⟩ : ∃ k : Nat, K = k := ⟨K.toNat, by omega⟩
    obtain ⟨b, rfl⟩ : ∃ b : Nat, B = b := ⟨B.toNat, by omega⟩
    refine (split_yes v D k b h w hD).mono ?_
    rintro e w' ⟨g, vs, rfl, hO, hx⟩
    exact ⟨_, rfl, hO.brows, hx⟩
  · simp only [h, decide_false, if_false]
    refine (split_no v D K B h w hD).mono ?_
    rintro e w' ⟨rfl, rfl⟩
    exact ⟨_, rfl, nil_rows _, Ext.refl _⟩
theorem rsplit_tot (v : Value) (D : List UInt8) (K B : Int) (w : World) (hD : Bytes w v D) :
    Calls Try.prog 16 #[v, .int .i64 K, .int .i64 B] w fun e w' => ∃ x, e = .returned (.tuple #[x, .bool (cutOk D.length K B)]) ∧ BRows w' x (cutRows D K B) ∧ Ext w w' := by
  unfold cutOk cutRows
  by_cases h : May D.length K B
  · simp only [h, decide_true, if_true]
    have h1 := h
    unfold May at h1
    obtain ⟨k, rfl⟩ : ∃ k : Nat, K = k := ⟨K.toNat, by omega⟩
    obtain ⟨b, rfl⟩ : ∃ b : Nat, B = b := ⟨B.toNat, by omega⟩
    refine (rsplit_yes v D k b h w hD).mono ?_
    rintro e w' ⟨g, vs, rfl, hO, hx⟩
    exact ⟨_, rfl, hO.brows, hx⟩
  · simp only [h, decide_false, if_false]
    refine (rsplit_no v D K B h w hD).mono ?_
    rintro e w' ⟨rfl, rfl⟩
    exact ⟨_, rfl, nil_rows _, Ext.refl _⟩
theorem join_tot (v : Value) (ls : List (List UInt8)) (S B : Int) (hlen : ∀ r ∈ ls, r.length ≤ maxLen) (w : World) (hR : BRows w v ls) :
    Calls Try.prog 17 #[v, .int .i64 S, .int .i64 B] w fun e w' => ∃ x, e = .returned (.tuple #[x, .bool (joinOk ls S B)]) ∧ Bytes w' x (joinOut ls S B) ∧ Ext w w' := by
  unfold joinOk joinOut JoinMay
  by_cases h : May S ls.length B
  · have h1 := h
    unfold May at h1
    obtain ⟨s, rfl⟩ : ∃ s : Nat, S = s := ⟨S.toNat, by omega⟩
    obtain ⟨b, rfl⟩ : ∃ b : Nat, B = b := ⟨B.toNat, by omega⟩
    simp only [h, true_and, Int.toNat_natCast]
    by_cases h2 : ∀ r ∈ ls, r.length = Stripe.len s ls.length b
    · rw [if_pos h2, decide_eq_true h2]
      refine (join_yes v ls s b h h2 w hR).mono ?_
      rintro e w' ⟨x, rfl, hX, hx⟩
      exact ⟨_, rfl, hX, hx⟩
    · rw [if_neg h2, decide_eq_false h2]
      refine (join_odd v ls s b h h2 hlen w hR).mono ?_
      rintro e w' ⟨rfl, hx⟩
      exact ⟨_, rfl, Cells.nil _, hx⟩
  · simp only [h, false_and, decide_false, if_false]
    refine (join_may v ls S B h w hR).mono ?_
    rintro e w' ⟨rfl, hx⟩
    exact ⟨_, rfl, Cells.nil _, hx⟩
theorem rjoin_tot (v : Value) (ls : List (List UInt8)) (S B : Int) (hlen : ∀ r ∈ ls, r.length ≤ maxLen) (w : World) (hR : BRows w v ls) :
    Calls Try.prog 18 #[v, .int .i64 S, .int .i64 B] w fun e w' => ∃ x, e = .returned (.tuple #[x, .bool (joinOk ls S B)]) ∧ Bytes w' x (joinOut ls S B) ∧ Ext w w' := by
  unfold joinOk joinOut JoinMay
  by_cases h : May S ls.length B
  · have h1 := h
    unfold May at h1
    obtain ⟨s, rfl⟩ : ∃ s : Nat, S = s := ⟨S.toNat, by omega⟩
    obtain ⟨b, rfl⟩ : ∃ b : Nat, B = b := ⟨B.toNat, by omega⟩
    simp only [h, true_and, Int.toNat_natCast]
    by_cases h2 : ∀ r ∈ ls, r.length = Stripe.len s ls.length b
    · rw [if_pos h2, decide_eq_true h2]
      refine (rjoin_yes v ls s b h h2 w hR).mono ?_
      rintro e w' ⟨x, rfl, hX, hx⟩
      exact ⟨_, rfl, hX, hx⟩
    · rw [if_neg h2, decide_eq_false h2]
      refine (rjoin_odd v ls s b h h2 hlen w hR).mono ?_
      rintro e w' ⟨rfl, hx⟩
      exact ⟨_, rfl, Cells.nil _, hx⟩
  · simp only [h, false_and, decide_false, if_false]
    refine (rjoin_may v ls S B h w hR).mono ?_
    rintro e w' ⟨rfl, hx⟩
    exact ⟨_, rfl, Cells.nil _, hx⟩
theorem length_draw (size k b : Nat) (h : May size k b) (w : World) :
    Calls Try.prog 20 #[.int .i64 size, .int .i64 k, .int .i64 b] w fun e w' => e = .returned (.int .i64 (Stripe.len size k b : Nat)) ∧ ∃ m, w' = w.drewN m := by
  have H := Lib.hid h
  obtain ⟨h1, h2, h3, h4, h5, h6⟩ := h
  obtain ⟨m1, m2⟩ := mul_bd k b (by omega) (by omega) (by omega) (by omega)
  obtain ⟨p, hp⟩ : ∃ p, p = k * b := ⟨_, rfl⟩
  have hpi : (k : Int) * (b : Int) = (p : Int) := by rw [hp]; simp
  have n1 : 1 ≤ (p : Int) := by omega
  have n2 : (p : Int) ≤ 1044480 := by omega
  have hq := Nat.mod_lt size (by omega : 0 < p)
  have hq2 := Nat.mod_le size p
  have hd := Nat.div_le_self size p
  have hz : size / p * b ≤ 65536 * 4096 := Nat.mul_le_mul (by omega) (by omega)
  have hu : Stripe.up (size % p) k ≤ 65536 + 255 := by unfold Stripe.up; exact Nat.le_trans (Nat.div_le_self _ _) (by omega)
  have hz2 : 0 ≤ (size : Int) / (p : Int) * (b : Int) := Int.mul_nonneg (Int.ediv_nonneg (by omega) (by omega)) (by omega)
  have hz3 : (size : Int) / (p : Int) * (b : Int) ≤ 65536 * 4096 := by
    have : ((size / p * b : Nat) : Int) ≤ 65536 * 4096 := by omega
    simpa using this
  have hP := Lib.hid hp
  clear hp
  have e1 : ((size : Int) % (p : Int)).toNat = size % p := by omega
  go_enter Try.func20, Try.ntmps20
  go_wp2_with (go_at_call 40; refine (may_yes _ _ _ H.out _).mono ?_; rintro e w' ⟨rfl, rfl⟩)
  go_quiet ((go_at_call 41; exact Calls.quiet_of_same ((up_int _ _ ⟨Int.emod_nonneg _ (by omega), by omega⟩ (by omega) _).mono fun e w' h => ⟨h.1, h.2.symm⟩)))
  go_wp2
  go_ret
  refine ⟨ret_i ?_, _, rfl⟩
  unfold Stripe.len
  have z1 : 0 ≤ (size : Int) / (p : Int) := Int.ediv_nonneg (by omega) (by omega)
  have z2 : (size : Int) / (p : Int) ≤ 65536 := by
    have : ((size / p : Nat) : Int) ≤ 65536 := by omega
    simpa using this
  rw [← hP.out]
  simp (disch := omega) only [IntWalk.wrap64_in]
  simp
theorem length_tot (S K B : Int) (w : World) : Calls Try.prog 20 #[.int .i64 S, .int .i64 K, .int .i64 B] w fun e w' => e = .returned (.int .i64 (lenOut S K B)) ∧ ∃ m, w' = w.drewN m := by
  unfold lenOut
  by_cases h : May S K B
  · rw [if_pos h]
    have h1 := h
    unfold May at h1
    obtain ⟨s, rfl⟩ : ∃ s : Nat, S = s := ⟨S.toNat, by omega⟩
    obtain ⟨k, rfl⟩ : ∃ k : Nat, K = k := ⟨K.toNat, by omega⟩
    obtain ⟨b, rfl⟩ : ∃ b : Nat, B = b := ⟨B.toNat, by omega⟩
    simp only [Int.toNat_natCast]
    exact length_draw s k b h w
  · rw [if_neg h]
    exact (length_no S K B h w).mono fun e w' ⟨h1, h2⟩ => ⟨h1, 0, h2.symm⟩
theorem rlength_tot (S K B : Int) (w : World) : Calls Try.prog 21 #[.int .i64 S, .int .i64 K, .int .i64 B] w fun e w' => e = .returned (.int .i64 (lenOut S K B)) ∧ w = w' := by
  unfold lenOut
  by_cases h : May S K B
  · rw [if_pos h]
    have h1 := h
    unfold May at h1
    exact rlength_of S K B S.toNat K.toNat B.toNat (by omega) (by omega) (by omega) (by rw [Int.toNat_of_nonneg (by omega), Int.toNat_of_nonneg (by omega), Int.toNat_of_nonneg (by omega)]; exact h) w
  · rw [if_neg h]
    exact rlength_no S K B h w

theorem same_yes (v u : Value) (ls : List (List UInt8)) (hl : ls.length ≤ maxLen) (w : World) (hV : BRows w v ls) (hU : BRows w u ls) :
    Calls Try.prog 19 #[v, u] w fun e w' => e = .returned (.bool true) ∧ ∃ m, w' = w.drewN m := by
  obtain ⟨a, n, cap, rfl⟩ : ∃ a n cap, v = .slice a n cap := by obtain ⟨vs, ⟨a, cap, e, _⟩, _⟩ := hV; exact ⟨_, _, _, e⟩
  obtain rfl := hV.len
  obtain ⟨a2, n2, cap2, rfl⟩ : ∃ a n cap, u = .slice a n cap := by obtain ⟨vs, ⟨a, cap, e, _⟩, _⟩ := hU; exact ⟨_, _, _, e⟩
  obtain rfl := hU.len
  have HV := Lib.hid hV
  have HU := Lib.hid hU
  clear hV hU
  unfold maxLen at hl
  go_enter Try.func19, Try.ntmps19
  go_wp2_with fail
  go_loopw [5] (fun v5 wr => ∃ i : Nat, i ≤ ls.length ∧ v5 = .int .i64 i ∧ ∃ m, wr = w.drewN m) (fun v5 _ => (ls.length - intOf v5).toNat)
  case atStart => exact ⟨0, by omega, rfl, 0, rfl⟩
  case round =>
    obtain ⟨i, hi, rfl, hm⟩ := hrel
    have hM := Lib.hid hm
    have hx1 : Ext w wr := by obtain ⟨m, rfl⟩ := hm; exact Ext.of_drawn _ _
    clear hm
    by_cases hlt : i < ls.length
    · obtain ⟨rb, ro, ra, rc, rfl, c1, hb⟩ := (HV.out.ext hx1).at (List.getElem?_eq_getElem hlt)
      obtain ⟨rb2, ro2, ra2, rc2, rfl, c2, hb2⟩ := (HU.out.ext hx1).at (List.getElem?_eq_getElem hlt)
      have y1 := str_conv hb
      have y2 := str_conv hb2
      have z1 := fun n => y1 (wr.drewN n) (Ext.of_drawn wr n)
      have z2 := fun n => y2 (wr.drewN n) (Ext.of_drawn wr n)
      clear hb hb2 y1 y2
      go_wp2_with fail
      go_quiet (fail)
      have x1 : Hid (∃ m, wr.drewN nq = w.drewN m) := by obtain ⟨m, hm⟩ := hM.out; exact ⟨m + nq, by rw [hm, World.drewN_drewN]⟩
      generalize wr.drewN nq = wt at x1 ⊢
      go_wp2_with fail
      exact ⟨⟨i + 1, by omega, by go_num, x1⟩, by simp [intOf]; omega⟩
    · obtain rfl : i = ls.length := by omega
      clear hlt
      go_wp2_with fail
      go_ret
      exact ⟨rfl, hM.out⟩
end Go.Proofs.Ytflockpdojjgeaa
