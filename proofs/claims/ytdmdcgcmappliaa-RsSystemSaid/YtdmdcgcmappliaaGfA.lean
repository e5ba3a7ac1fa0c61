/-
  Contracts of the field's functions that keep no table: doubling, the product bit by bit (the program's and the reference's), and the making of the table.
-/
import Derived.Test.YtdmdcgcmappliaaCore
import Derived.Test.YtdmdcgcmappliaaGfPure
namespace Go.Proofs.Ytdmdcgcmappliaa
open Go.RowKit Gf

theorem dbl_bits (x : Nat) (h : x < 256) : bits .xor .i64 ((x : Int) * 2) 285 = (((2 * x) ^^^ 285 : Nat) : Int) := by
  have := i64_xor_nat (2 * x) 285 (by omega) (by decide)
  rw [← this]; congr 1; omega

theorem double_any (x : Nat) (h : x < 256) (w : World) :
    Calls Try.prog 67 #[.int .i64 x] w fun e w' => e = .returned (.int .i64 (dbl x : Nat)) ∧ w = w' := by
  by_cases c : x < 128
  · have hc : decide (256 ≤ (x : Int) * 2) = false := by simp; omega
    go_enter Try.func67, Try.ntmps67
    go_wp2
    go_ret
    refine ⟨?_, rfl⟩
    have : dbl x = 2 * x := by unfold dbl; rw [if_pos c]
    exact ret_i (by rw [this]; omega)
  · have hc : decide (256 ≤ (x : Int) * 2) = true := by simp; omega
    have hb := Lib.hid (dbl_bits x h)
    go_enter Try.func67, Try.ntmps67
    go_wp2
    go_ret
    refine ⟨?_, rfl⟩
    have : dbl x = (2 * x) ^^^ 285 := by unfold dbl; rw [if_neg c]
    exact ret_i (by rw [this, ← hb.out])

/-- What is left of the product. -/
theorem gm_step (k a b : Nat) : gm (k + 1) a b = (if b % 2 = 1 then a else 0) ^^^ gm k (dbl a) (b / 2) := rfl
theorem gm_zero_right (k a : Nat) : gm k a 0 = 0 := by
  induction k generalizing a with
  | zero => rfl
  | succ k ih => unfold gm; simp [ih]
theorem and_one (b : Nat) (h : b < 256) : bits .and .u8 (b : Int) 1 = ((b % 2 : Nat) : Int) := by
  have := u8_and_nat b 1 h (by decide)
  rw [Nat.and_one_is_mod] at this; exact this

theorem int_mod2 (b : Nat) : ((b : Int) % 2 = 1) ↔ b % 2 = 1 := by omega

set_option maxHeartbeats 400000 in
set_option maxHeartbeats 400000 in
set_option maxRecDepth 100000 in
theorem rmul_any (a b : Nat) (ha : a < 256) (hb : b < 256) (w : World) :
    Calls Try.prog 38 #[.int .u8 a, .int .u8 b] w fun e w' => e = .returned (.int .u8 (gmul a b : Nat)) ∧ w = w' := by
  go_enter Try.func38, Try.ntmps38
  go_wp2
  go_loop [5, 6, 7] (fun v5 v6 v7 => ∃ i x p : Nat, i ≤ 8 ∧ x < 256 ∧ p < 256 ∧ Hid (p ^^^ gm (8 - i) x (b / 2 ^ i) = gmul a b) ∧ v5 = .int .i64 x ∧ v6 = .int .i64 p ∧ v7 = .int .i64 i) (fun _ _ v7 => (8 - intOf v7).toNat)
  case atStart => exact ⟨0, a, 0, by omega, ha, by decide, Lib.hid (by unfold gmul; simp), by go_num, rfl, rfl⟩
  case round =>
    obtain ⟨i, x, p, h1, h3, h4, H, rfl, rfl, rfl⟩ := hrel
    by_cases hi : i = 8
    · subst hi
      go_wp2
      go_ret
      refine ⟨ret_i ?_, rfl⟩
      have := H.out
      simp only [Nat.sub_self, gm, Nat.xor_zero] at this
      rw [this]
    · have hi1 : (i : Int) < 8 := by omega
      have hs := H.out
      rw [show 8 - i = (7 - i) + 1 by omega, gm_step, Nat.div_div_eq_div_mul, ← Nat.pow_succ] at hs
      clear H
      have hd := dbl_lt x h3
      have hi8 : 8 - (i + 1) = 7 - i := by omega
      have hx := Lib.hid (i64_xor_nat p x (by omega) (by omega))
      have hpx := xor_lt p x h4 h3
      have e1 : (bits .and .u8 ((b : Int) / 2 ^ i) 1 == 1) = decide (b / 2 ^ i % 2 = 1) := by
        have := and_one (b / 2 ^ i) (Nat.lt_of_le_of_lt (Nat.div_le_self _ _) hb)
        rw [show ((b : Int) / 2 ^ i) = ((b / 2 ^ i : Nat) : Int) by simp, this]
        rcases Nat.mod_two_eq_zero_or_one (b / 2 ^ i) with h | h <;> rw [h] <;> rfl
      have e2 : x < 128 → dbl x = 2 * x := fun h => by unfold dbl; rw [if_pos h]
      have e3 : ¬ x < 128 → (dbl x : Int) = bits .xor .i64 ((x : Int) * 2) 285 := fun h => by rw [dbl_bits x h3]; unfold dbl; rw [if_neg h]
      have E2 := Lib.hid e2
      have E3 := Lib.hid e3
      clear e2 e3
      by_cases o : b / 2 ^ i % 2 = 1
      · have hq : (bits .and .u8 ((b : Int) / 2 ^ i) 1 == 1) = true := by rw [e1, decide_eq_true o]
        rw [if_pos o, ← Nat.xor_assoc, ← hi8] at hs
        have H := Lib.hid hs
        clear hs o e1 hi8
        go_wp2
        all_goals
          go_round
          case rel => exact ⟨i + 1, dbl x, p ^^^ x, by omega, hd, hpx, H, congrArg (Value.int .i64) (by first | (rw [E2.out (by omega)]; omega) | rw [E3.out (by omega)]), by rw [hx.out], by go_num⟩
          case measure => simp [intOf]; omega
      · have hq : (bits .and .u8 ((b : Int) / 2 ^ i) 1 == 1) = false := by rw [e1, decide_eq_false o]
        rw [if_neg o, Nat.zero_xor, ← hi8] at hs
        have H := Lib.hid hs
        clear hs o e1 hi8
        go_wp2
        all_goals
          go_round
          case rel => exact ⟨i + 1, dbl x, p, by omega, hd, h4, H, congrArg (Value.int .i64) (by first | (rw [E2.out (by omega)]; omega) | rw [E3.out (by omega)]), rfl, by go_num⟩
          case measure => simp [intOf]; omega
end Go.Proofs.Ytdmdcgcmappliaa
