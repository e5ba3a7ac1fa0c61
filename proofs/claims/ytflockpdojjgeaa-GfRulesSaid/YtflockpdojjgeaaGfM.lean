/-
  The statements GfRules and GfTables by their walks.
-/
import Derived.Test.YtflockpdojjgeaaGfL
namespace Go.Proofs.Ytflockpdojjgeaa
open Go.RowKit Gf
set_option maxRecDepth 100000
set_option maxHeartbeats 2000000
attribute [local go_sem] min_int2 max_int2

theorem gpow_lt (x : Nat) (n : Int) : gpow x n < 256 := by
  unfold gpow
  split
  · decide
  · split
    · decide
    · split
      · decide
      · exact ex_lt _
theorem exI_lt (n : Int) : exI n < 256 := ex_lt _
theorem gpow_nat (x n : Nat) (x0 : x ≠ 0) : gpow x (n : Int) = ex (lg x * n) := by
  rw [gpow_pos x n (by omega) x0]
  have : ((n : Int) % 255).toNat = n % 255 := by omega
  rw [this, ← ex_mod, ← ex_mod (lg x * n), Nat.mul_mod, Nat.mod_mod, ← Nat.mul_mod]
theorem gpow_zero_nat (n : Nat) : gpow 0 (n : Int) = if n = 0 then 1 else 0 := by
  unfold gpow
  rw [if_neg (by omega)]
  by_cases h : n = 0
  · subst h; rfl
  · rw [if_neg (by omega), if_pos rfl, if_neg h]
theorem gpow_add (x m n : Nat) : gmul (gpow x (m : Int)) (gpow x (n : Int)) = gpow x ((m : Int) + (n : Int)) := by
  rw [show ((m : Int) + (n : Int)) = ((m + n : Nat) : Int) by omega]
  by_cases x0 : x = 0
  · subst x0
    rw [gpow_zero_nat, gpow_zero_nat, gpow_zero_nat]
    by_cases h : m = 0 <;> by_cases k : n = 0
    · subst h k; rfl
    · subst h; simp [k, gmul_zero_right]
    · subst k; simp [h, gmul_zero_left]
    · simp [h, k, gmul_zero_left]
  · rw [gpow_nat x m x0, gpow_nat x n x0, gpow_nat x _ x0, gmul_ex_ex, Nat.mul_add]
theorem exI_add (m n : Nat) : gmul (exI (m : Int)) (exI (n : Int)) = exI ((m : Int) + (n : Int)) := by
  rw [show ((m : Int) + (n : Int)) = ((m + n : Nat) : Int) by omega, exI_nat, exI_nat, exI_nat, gmul_ex_ex]
theorem div_back (A B : Nat) (ha : A < 256) (hb : B < 256) (a0 : A ≠ 0) (b0 : B ≠ 0) : ex (lg (gmul A B) + 255 - lg B) = A := by
  have h1 := lg_lt A ha
  have h2 := lg_lt B hb
  rw [gmul_lg A B ha hb a0 b0, lg_ex, ← ex_mod]
  have : ((lg A + lg B) % 255 + 255 - lg B) % 255 = lg A := by
    by_cases h : lg A + lg B < 255
    · rw [Nat.mod_eq_of_lt h]; omega
    · rw [show (lg A + lg B) % 255 = lg A + lg B - 255 by omega]; omega
  rw [this, ex_lg A ha a0]

theorem gfRules_nat (w : World) (A B C : Nat) (ha : A < 256) (hb : B < 256) (hc : C < 256) :
    Calls Try.prog 13 #[.int .u8 A, .int .u8 B, .int .u8 C] w fun e w' => e = .returned (.bool true) ∧ Below w.heap.size w w' := by
  have l1 := gmul_lt A B ha
  have l2 := gmul_lt B C hb
  have l3 := gmul_lt A C ha
  have l4 := xor_lt B C hb hc
  have l5 := xor_lt (gmul A B) (gmul A C) l1 l3
  have l6 := gpow_lt B (A : Int)
  have l7 := gpow_lt B (C : Int)
  have l8 := exI_lt (A : Int)
  have l9 := exI_lt (C : Int)
  have r1 := gmul_comm B A hb ha
  have r2 := gmul_assoc A B C ha hb hc
  have r3 := gmul_xor A B C
  have r4 := gmul_one A ha
  have r5 := gmul_zero_right A
  have r6 := gpow_add B A C
  have r7 := exI_add A C
  by_cases b0 : B = 0
  · subst b0
    have r8 := gmul_zero_left C
    rw [r5, r8, r5] at r2
    rw [Nat.zero_xor, r5, Nat.zero_xor] at r3
    have r9 := gmul_zero_left A
    clear r1 r2 r3
    go_enter Try.func13, Try.ntmps13
    go_wp2_with fail
    refine (gfawake_any _).mono ?_; rintro e w1 ⟨rfl, hx1⟩
    go_wp2_with fail
    refine (new_any _).mono ?_; rintro e w2 ⟨t, ht, rfl, hT, hx⟩
    have hh := Lib.hid hT
    clear hT
    go_wp2_with fail
    refine (tmul_any t A 0 ha (by decide) _ hh.out).mono ?_; rintro e w' ⟨rfl, rfl⟩
    rw [r5]
    go_wp2_with fail
    refine (div_none t 0 _ hh.out).mono ?_; rintro e w' ⟨rfl, rfl⟩
    go_wp2_with (first | (go_at_call 31; refine (tmul_int t _ _ (by omega) (by omega) _ hh.out).mono ?_; rintro e w' ⟨rfl, rfl⟩) | (go_at_call 30; refine (add_int _ _ (by omega) (by omega) _).mono ?_; rintro e w' ⟨rfl, rfl⟩) | (go_at_call 26; refine (tpow_int t _ _ (by omega) _ hh.out).mono ?_; rintro e w' ⟨rfl, rfl⟩) | (go_at_call 27; refine (exp_any t _ _ hh.out).mono ?_; rintro e w' ⟨rfl, rfl⟩))
    go_ret
    exact ⟨rfl, hx1.trans hx⟩
  · have bp : 0 < (B : Int) := by omega
    have hbq : ((B : Int) != 0) = true := by simp; omega
    by_cases a0 : A = 0
    · subst a0
      clear r1 r2 r3 r4 r5 l1 l2 l3 l4 l5 l6 l7 l8 l9
      have z1 : ∀ x, gmul 0 x = 0 := gmul_zero_left
      have z2 : ∀ x, gmul x 0 = 0 := gmul_zero_right
      have l2 := gmul_lt B C hb
      have l4 := xor_lt B C hb hc
      have l6 := gpow_lt B 0
      have l7 := gpow_lt B (C : Int)
      have l8 := exI_lt 0
      have r6' : gmul (gpow B 0) (gpow B (C : Int)) = gpow B (C : Int) := by have := gpow_add B 0 C; simpa using this
      have r7' : gmul (exI 0) (exI (C : Int)) = exI (C : Int) := by have := exI_add 0 C; simpa using this
      clear r6 r7
      have l9 := exI_lt (C : Int)
      have hxx : bits .xor .u8 0 0 = 0 := by decide
      go_enter Try.func13, Try.ntmps13
      go_wp2_with fail
      refine (gfawake_any _).mono ?_; rintro e w1 ⟨rfl, hx1⟩
      go_wp2_with fail
      refine (new_any _).mono ?_; rintro e w2 ⟨t, ht, rfl, hT, hx⟩
      have hh := Lib.hid hT
      clear hT
      go_wp2_with fail
      refine (tmul_any t 0 B (by decide) hb _ hh.out).mono ?_; rintro e w' ⟨rfl, rfl⟩
      rw [z1]
      go_wp2_with fail
      refine (div_zero t B hb b0 _ hh.out).mono ?_; rintro e w' ⟨rfl, rfl⟩
      go_wp2_with (first | (go_at_call 31; refine (tmul_int t _ _ (by omega) (by omega) _ hh.out).mono ?_; rintro e w' ⟨rfl, rfl⟩) | (go_at_call 30; refine (add_int _ _ (by omega) (by omega) _).mono ?_; rintro e w' ⟨rfl, rfl⟩) | (go_at_call 26; refine (tpow_int t _ _ (by omega) _ hh.out).mono ?_; rintro e w' ⟨rfl, rfl⟩) | (go_at_call 27; refine (exp_any t _ _ hh.out).mono ?_; rintro e w' ⟨rfl, rfl⟩))
      go_ret
      exact ⟨rfl, hx1.trans hx⟩
    · have ap : 0 < (A : Int) := by omega
      have hd := div_back A B ha hb a0 b0
      have hd0 := gmul_ne_zero A B ha hb a0 b0
      go_enter Try.func13, Try.ntmps13
      go_wp2_with fail
      refine (gfawake_any _).mono ?_; rintro e w1 ⟨rfl, hx1⟩
      go_wp2_with fail
      refine (new_any _).mono ?_; rintro e w2 ⟨t, ht, rfl, hT, hx⟩
      have hh := Lib.hid hT
      clear hT
      go_wp2_with fail
      refine (tmul_any t A B ha hb _ hh.out).mono ?_; rintro e w' ⟨rfl, rfl⟩
      go_wp2_with fail
      refine (div_any t (gmul A B) B l1 hd0 hb b0 _ hh.out).mono ?_; rintro e w' ⟨rfl, rfl⟩
      clear hd0
      go_wp2_with (first | (go_at_call 31; refine (tmul_int t _ _ (by omega) (by omega) _ hh.out).mono ?_; rintro e w' ⟨rfl, rfl⟩) | (go_at_call 30; refine (add_int _ _ (by omega) (by omega) _).mono ?_; rintro e w' ⟨rfl, rfl⟩) | (go_at_call 26; refine (tpow_int t _ _ (by omega) _ hh.out).mono ?_; rintro e w' ⟨rfl, rfl⟩) | (go_at_call 27; refine (exp_any t _ _ hh.out).mono ?_; rintro e w' ⟨rfl, rfl⟩))
      go_ret
      exact ⟨rfl, hx1.trans hx⟩
theorem gfRules_walk (w : World) (a b c : UInt8) :
    Calls Try.prog 13 #[bv a, bv b, bv c] w fun e w' => e = .returned (.bool true) ∧ Below w.heap.size w w' :=
  gfRules_nat w a.toNat b.toNat c.toNat (u8lt a) (u8lt b) (u8lt c)
end Go.Proofs.Ytflockpdojjgeaa
