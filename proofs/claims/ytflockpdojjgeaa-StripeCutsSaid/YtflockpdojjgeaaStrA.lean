/-
  Contracts of the small functions of layer 11: may, up, Length, and the reference's Length.
-/
import Derived.Test.YtflockpdojjgeaaApp
import Derived.Test.YtflockpdojjgeaaStrPure
import Derived.Deep.QuietTactic
import Derived.BigQuiet
namespace Go.Proofs.Ytflockpdojjgeaa
open Go.RowKit
set_option maxRecDepth 100000
set_option maxHeartbeats 1000000
attribute [local go_sem] min_int2 max_int2

/-- May it be? -/
def May (size k b : Int) : Prop := 1 ≤ k ∧ k ≤ 255 ∧ 1 ≤ b ∧ b ≤ 4096 ∧ 0 ≤ size ∧ size ≤ 65536
theorem may_yes (size k b : Int) (h : May size k b) (w : World) :
    Calls Try.prog 40 #[.int .i64 size, .int .i64 k, .int .i64 b] w fun e w' => e = .returned (.bool true) ∧ w = w' := by
  obtain ⟨h1, h2, h3, h4, h5, h6⟩ := h
  go_enter Try.func40, Try.ntmps40
  go_wp2
  go_ret
  exact ⟨rfl, rfl⟩
theorem may_no (size k b : Int) (h : ¬ May size k b) (w : World) :
    Calls Try.prog 40 #[.int .i64 size, .int .i64 k, .int .i64 b] w fun e w' => e = .returned (.bool false) ∧ w = w' := by
  unfold May at h
  by_cases h1 : 1 ≤ k
  · by_cases h2 : k ≤ 255
    · by_cases h3 : 1 ≤ b
      · by_cases h4 : b ≤ 4096
        · by_cases h5 : 0 ≤ size
          · have h6 : decide (size ≤ 65536) = false := by simp; omega
            clear h
            go_enter Try.func40, Try.ntmps40
            go_wp2
            go_ret
            exact ⟨rfl, rfl⟩
          · clear h
            go_enter Try.func40, Try.ntmps40
            go_wp2
            go_ret
            exact ⟨rfl, rfl⟩
        · clear h
          go_enter Try.func40, Try.ntmps40
          go_wp2
          go_ret
          exact ⟨rfl, rfl⟩
      · clear h
        go_enter Try.func40, Try.ntmps40
        go_wp2
        go_ret
        exact ⟨rfl, rfl⟩
    · clear h
      go_enter Try.func40, Try.ntmps40
      go_wp2
      go_ret
      exact ⟨rfl, rfl⟩
  · clear h
    go_enter Try.func40, Try.ntmps40
    go_wp2
    go_ret
    exact ⟨rfl, rfl⟩
theorem up_any (n k : Nat) (hn : n ≤ 1000000000) (hk : 1 ≤ k) (hk2 : k ≤ 1000000000) (w : World) :
    Calls Try.prog 41 #[.int .i64 n, .int .i64 k] w fun e w' => e = .returned (.int .i64 (Stripe.up n k : Nat)) ∧ w = w' := by
  have h1 : 1 ≤ (k : Int) := by omega
  go_enter Try.func41, Try.ntmps41
  go_wp2
  go_ret
  refine ⟨ret_i ?_, rfl⟩
  unfold Stripe.up
  rw [Int.natCast_ediv]; congr 1; omega
theorem up_int (n k : Int) (hn : 0 ≤ n ∧ n ≤ 1000000000) (hk : 1 ≤ k ∧ k ≤ 1000000000) (w : World) :
    Calls Try.prog 41 #[.int .i64 n, .int .i64 k] w fun e w' => e = .returned (.int .i64 (Stripe.up n.toNat k.toNat : Nat)) ∧ w = w' := by
  obtain ⟨n, rfl⟩ := Int.eq_ofNat_of_zero_le hn.1
  obtain ⟨k, rfl⟩ := Int.eq_ofNat_of_zero_le (show (0 : Int) ≤ k by omega)
  exact up_any n k (by omega) (by omega) (by omega) w
theorem length_no (size k b : Int) (h : ¬ May size k b) (w : World) :
    Calls Try.prog 20 #[.int .i64 size, .int .i64 k, .int .i64 b] w fun e w' => e = .returned (.int .i64 0) ∧ w = w' := by
  have H := Lib.hid h
  clear h
  go_enter Try.func20, Try.ntmps20
  go_wp2_with (go_at_call 40; refine (may_no _ _ _ H.out _).mono ?_; rintro e w' ⟨rfl, rfl⟩)
  go_ret
  exact ⟨rfl, rfl⟩
theorem mul_bd (k b : Nat) (h1 : 1 ≤ k) (h2 : k ≤ 255) (h3 : 1 ≤ b) (h4 : b ≤ 4096) : 1 ≤ k * b ∧ k * b ≤ 1044480 :=
  ⟨Nat.mul_pos h1 h3, Nat.mul_le_mul h2 h4⟩
theorem length_yes (size k b : Nat) (h : May size k b) (w : World) :
    Calls Try.prog 20 #[.int .i64 size, .int .i64 k, .int .i64 b] w fun e w' => e = .returned (.int .i64 (Stripe.len size k b : Nat)) ∧ Ext w w' := by
  have H := Lib.hid h
  obtain ⟨h1, h2, h3, h4, h5, h6⟩ := h
  obtain ⟨m1, m2⟩ := mul_bd k b (by omega) (by omega) (by omega) (by omega)
  obtain ⟨p, hp⟩ : ∃ p, p = k * b := ⟨_, rfl⟩
  have hpi : (k : Int) * (b : Int) = (p : Int) := by rw [hp]; simp
  have n1 : 1 ≤ (p : Int) := by omega
  have n2 : (p : Int) ≤ 1044480 := by omega
  have hq := Nat.mod_lt size (by omega : 0 < p)
  have hq2 := Nat.mod_le size p
  have hd := Nat.div_le_self size p
  have hz : size / p * b ≤ 65536 * 4096 := Nat.mul_le_mul (by omega) (by omega)
  have hu : Stripe.up (size % p) k ≤ 65536 + 255 := by unfold Stripe.up; exact Nat.le_trans (Nat.div_le_self _ _) (by omega)
  have hz2 : 0 ≤ (size : Int) / (p : Int) * (b : Int) := Int.mul_nonneg (Int.ediv_nonneg (by omega) (by omega)) (by omega)
  have hz3 : (size : Int) / (p : Int) * (b : Int) ≤ 65536 * 4096 := by
    have : ((size / p * b : Nat) : Int) ≤ 65536 * 4096 := by omega
    simpa using this
  have hP := Lib.hid hp
  clear hp
  have e1 : ((size : Int) % (p : Int)).toNat = size % p := by omega
  go_enter Try.func20, Try.ntmps20
  go_wp2_with (go_at_call 40; refine (may_yes _ _ _ H.out _).mono ?_; rintro e w' ⟨rfl, rfl⟩)
  go_quiet ((go_at_call 41; exact Calls.quiet_of_same ((up_int _ _ ⟨Int.emod_nonneg _ (by omega), by omega⟩ (by omega) _).mono fun e w' h => ⟨h.1, h.2.symm⟩)))
  go_wp2
  go_ret
  refine ⟨ret_i ?_, Ext.of_drawn _ _⟩
  unfold Stripe.len
  have z1 : 0 ≤ (size : Int) / (p : Int) := Int.ediv_nonneg (by omega) (by omega)
  have z2 : (size : Int) / (p : Int) ≤ 65536 := by
    have : ((size / p : Nat) : Int) ≤ 65536 := by omega
    simpa using this
  rw [← hP.out]
  simp (disch := omega) only [IntWalk.wrap64_in]
  simp

theorem rlength_yes (size k b : Nat) (h : May size k b) (w : World) :
    Calls Try.prog 21 #[.int .i64 size, .int .i64 k, .int .i64 b] w fun e w' => e = .returned (.int .i64 (Stripe.len size k b : Nat)) ∧ w = w' := by
  obtain ⟨h1, h2, h3, h4, h5, h6⟩ := h
  obtain ⟨m1, m2⟩ := mul_bd k b (by omega) (by omega) (by omega) (by omega)
  obtain ⟨p, hp⟩ : ∃ p, p = k * b := ⟨_, rfl⟩
  have hpi : (k : Int) * (b : Int) = (p : Int) := by rw [hp]; simp
  have n1 : 1 ≤ (p : Int) := by omega
  have n2 : (p : Int) ≤ 1044480 := by omega
  have hd := Nat.div_le_self size p
  have hz : size / p * b ≤ 65536 * 4096 := Nat.mul_le_mul (by omega) (by omega)
  have hz2 : 0 ≤ (size : Int) / (p : Int) * (b : Int) := Int.mul_nonneg (Int.ediv_nonneg (by omega) (by omega)) (by omega)
  have hz3 : (size : Int) / (p : Int) * (b : Int) ≤ 65536 * 4096 := by
    have : ((size / p * b : Nat) : Int) ≤ 65536 * 4096 := by omega
    simpa using this
  have y1 : 0 ≤ (size : Int) % (p : Int) := Int.emod_nonneg _ (by omega)
  have y2 : (size : Int) % (p : Int) < (p : Int) := Int.emod_lt_of_pos _ (by omega)
  have x1 : 0 ≤ ((size : Int) % (p : Int) + (k : Int) - 1) / (k : Int) := Int.ediv_nonneg (by omega) (by omega)
  have x2 : ((size : Int) % (p : Int) + (k : Int) - 1) / (k : Int) ≤ (size : Int) % (p : Int) + (k : Int) - 1 := Int.ediv_le_self _ (by omega)
  have hP := Lib.hid hp
  clear hp
  go_enter Try.func21, Try.ntmps21
  go_wp2
  go_ret
  refine ⟨ret_i ?_, rfl⟩
  unfold Stripe.len Stripe.up
  have z1 : 0 ≤ (size : Int) / (p : Int) := Int.ediv_nonneg (by omega) (by omega)
  have z2 : (size : Int) / (p : Int) ≤ 65536 := by
    have : ((size / p : Nat) : Int) ≤ 65536 := by omega
    simpa using this
  rw [← hP.out]
  simp (disch := omega) only [IntWalk.wrap64_in]
  rw [Int.natCast_add, Int.natCast_mul, Int.natCast_ediv, Int.natCast_ediv]
  congr 2
  omega

theorem rlength_no (size k b : Int) (h : ¬ May size k b) (w : World) :
    Calls Try.prog 21 #[.int .i64 size, .int .i64 k, .int .i64 b] w fun e w' => e = .returned (.int .i64 0) ∧ w = w' := by
  have key : k < 1 ∨ (1 ≤ k ∧ 255 < k) ∨ (1 ≤ k ∧ k ≤ 255 ∧ b < 1) ∨ (1 ≤ k ∧ k ≤ 255 ∧ 1 ≤ b ∧ 4096 < b) ∨ (1 ≤ k ∧ k ≤ 255 ∧ 1 ≤ b ∧ b ≤ 4096 ∧ size < 0) ∨ (1 ≤ k ∧ k ≤ 255 ∧ 1 ≤ b ∧ b ≤ 4096 ∧ 0 ≤ size ∧ 65536 < size) := by unfold May at h; omega
  clear h
  rcases key with h1 | ⟨h1, h2⟩ | ⟨h1, h2, h3⟩ | ⟨h1, h2, h3, h4⟩ | ⟨h1, h2, h3, h4, h5⟩ | ⟨h1, h2, h3, h4, h5, h6⟩
  all_goals
    go_enter Try.func21, Try.ntmps21
    go_wp2
    go_ret
    exact ⟨rfl, rfl⟩
end Go.Proofs.Ytflockpdojjgeaa
