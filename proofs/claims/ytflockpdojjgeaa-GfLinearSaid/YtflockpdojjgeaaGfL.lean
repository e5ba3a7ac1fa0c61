/-
  The statements of layer 1 by their walks: each returns true and leaves what was there.
-/
import Derived.Test.YtflockpdojjgeaaGfE
namespace Go.Proofs.Ytflockpdojjgeaa
open Go.RowKit Gf
set_option maxRecDepth 100000
set_option maxHeartbeats 1000000
attribute [local go_sem] min_int2 max_int2

theorem tmul_int (b : Nat) (x y : Int) (hx : 0 ≤ x ∧ x < 256) (hy : 0 ≤ y ∧ y < 256) (w : World) (h : TableAt w b) :
    Calls Try.prog 31 #[.pointer (some ⟨b, 0, none⟩), .int .u8 x, .int .u8 y] w fun e w' => e = .returned (.int .u8 (gmul x.toNat y.toNat : Nat)) ∧ w = w' := by
  obtain ⟨x, rfl⟩ := Int.eq_ofNat_of_zero_le hx.1
  obtain ⟨y, rfl⟩ := Int.eq_ofNat_of_zero_le hy.1
  exact tmul_any b x y (by omega) (by omega) w h
theorem tpow_int (b : Nat) (x n : Int) (hx : 0 ≤ x ∧ x < 256) (w : World) (h : TableAt w b) :
    Calls Try.prog 26 #[.pointer (some ⟨b, 0, none⟩), .int .u8 x, .int .i64 n] w fun e w' => e = .returned (.int .u8 (gpow x.toNat n : Nat)) ∧ w = w' := by
  obtain ⟨x, rfl⟩ := Int.eq_ofNat_of_zero_le hx.1
  exact tpow_any b x (by omega) n w h
theorem add_int (x y : Int) (hx : 0 ≤ x ∧ x < 256) (hy : 0 ≤ y ∧ y < 256) (w : World) :
    Calls Try.prog 30 #[.int .u8 x, .int .u8 y] w fun e w' => e = .returned (.int .u8 (x.toNat ^^^ y.toNat : Nat)) ∧ w = w' := by
  obtain ⟨x, rfl⟩ := Int.eq_ofNat_of_zero_le hx.1
  obtain ⟨y, rfl⟩ := Int.eq_ofNat_of_zero_le hy.1
  exact add_any x y (by omega) (by omega) w

theorem gfawake_any (w : World) : Calls Try.prog 22 #[] w fun e w' => e = .returned (.bool true) ∧ Ext w w' := by
  have e1 : gmul 128 2 = 29 := by decide
  have e2 : exI 8 = 29 := by decide
  have e3 : ginv 2 = 142 := by decide
  go_enter Try.func22, Try.ntmps22
  go_wp2_with fail
  refine (new_any _).mono ?_; rintro e w1 ⟨b, hb, rfl, hT, hx⟩
  have hh := Lib.hid hT
  clear hT
  go_wp2_with fail
  refine (inv_any b 2 (by decide) (by decide) _ hh.out).mono ?_; rintro e w' ⟨rfl, rfl⟩
  go_wp2_with fail
  refine (mul_any 128 2 (by decide) (by decide) _).mono ?_; rintro e w' ⟨rfl, rfl⟩
  go_wp2_with fail
  refine (exp_any b 8 _ hh.out).mono ?_; rintro e w' ⟨rfl, rfl⟩
  go_wp2_with fail
  go_ret
  exact ⟨rfl, hx⟩

theorem gfKnown_walk (w : World) : Calls Try.prog 8 #[] w fun e w' => e = .returned (.bool true) ∧ Below w.heap.size w w' := by
  have e1 : lg 2 = 1 := by decide
  have e2 : gpow 0 0 = 1 := by decide
  have e3 : gpow 0 3 = 0 := by decide
  have e4 : gpow 3 (-1) = 0 := by decide
  have e5 : exI (-1) = 142 := by decide
  have e6 : exI 255 = 1 := by decide
  go_enter Try.func8, Try.ntmps8
  go_wp2_with fail
  refine (gfawake_any _).mono ?_; rintro e w1 ⟨rfl, hx1⟩
  go_wp2_with fail
  refine (new_any _).mono ?_; rintro e w2 ⟨b, hb, rfl, hT, hx⟩
  have hh := Lib.hid hT
  clear hT
  go_wp2_with fail
  refine (log_any b 2 (by decide) (by decide) _ hh.out).mono ?_; rintro e w' ⟨rfl, rfl⟩
  go_wp2_with fail
  refine (log_zero b _ hh.out).mono ?_; rintro e w' ⟨rfl, rfl⟩
  go_wp2_with fail
  refine (div_none b 5 _ hh.out).mono ?_; rintro e w' ⟨rfl, rfl⟩
  go_wp2_with fail
  refine (div_zero b 5 (by decide) (by decide) _ hh.out).mono ?_; rintro e w' ⟨rfl, rfl⟩
  go_wp2_with (first | (go_at_call 26; refine (tpow_int b _ _ (by decide) _ hh.out).mono ?_; rintro e w' ⟨rfl, rfl⟩) | (go_at_call 27; refine (exp_any b _ _ hh.out).mono ?_; rintro e w' ⟨rfl, rfl⟩))
  go_ret
  exact ⟨rfl, hx1.trans hx⟩

theorem ex_div (a b : Nat) (ha : a < 256) (a0 : a ≠ 0) (hb : b < 256) : gmul a (ginv b) = ex (lg a + 255 - lg b) := by
  have h := gmul_ex_ex (lg a) (255 - lg b)
  rw [ex_lg a ha a0] at h
  have hl := lg_lt b hb
  unfold ginv
  rw [h, show lg a + 255 - lg b = lg a + (255 - lg b) by omega]

theorem gfReckons_nat (w : World) (A B : Nat) (ha : A < 256) (hb : B < 256) (n : Int) :
    Calls Try.prog 12 #[.int .u8 A, .int .u8 B, .int .i64 n] w fun e w' => e = .returned (.bool true) ∧ Below w.heap.size w w' := by
  have hxor0 := u8_xor_nat A B ha hb
  by_cases b0 : B = 0
  · subst b0
    by_cases a0 : A = 0
    · subst a0
      have hxor : bits .xor .u8 0 0 = 0 := hxor0
      clear hxor0
      go_enter Try.func12, Try.ntmps12
      go_wp2_with fail
      refine (gfawake_any _).mono ?_; rintro e w1 ⟨rfl, hx1⟩
      go_wp2_with fail
      refine (new_any _).mono ?_; rintro e w2 ⟨t, ht, rfl, hT, hx⟩
      have hh := Lib.hid hT
      clear hT
      go_wp2_with fail
      refine (div_none t 0 _ hh.out).mono ?_; rintro e w' ⟨rfl, rfl⟩
      go_wp2_with fail
      refine (rdiv_none 0 (by decide) _).mono ?_; rintro e w' ⟨rfl, rfl⟩
      go_wp2_with fail
      refine (inv_none t _ hh.out).mono ?_; rintro e w' ⟨rfl, rfl⟩
      go_wp2_with fail
      refine (rinv_zero _).mono ?_; rintro e w' ⟨rfl, rfl⟩
      go_wp2_with fail
      refine (log_zero t _ hh.out).mono ?_; rintro e w' ⟨rfl, rfl⟩
      go_wp2_with fail
      refine (rlog_zero _).mono ?_; rintro e w' ⟨rfl, rfl⟩
      go_wp2_with fail
      refine (add_any 0 0 (by omega) (by omega) _).mono ?_; rintro e w' ⟨rfl, rfl⟩
      go_wp2_with fail
      refine (mul_any 0 0 (by omega) (by omega) _).mono ?_; rintro e w' ⟨rfl, rfl⟩
      go_wp2_with fail
      refine (rmul_any 0 0 (by omega) (by omega) _).mono ?_; rintro e w' ⟨rfl, rfl⟩
      go_wp2_with fail
      refine (tmul_any t 0 0 (by omega) (by omega) _ hh.out).mono ?_; rintro e w' ⟨rfl, rfl⟩
      go_wp2_with fail
      refine (rmul_any 0 0 (by omega) (by omega) _).mono ?_; rintro e w' ⟨rfl, rfl⟩
      go_wp2_with fail
      refine (exp_any t n _ hh.out).mono ?_; rintro e w' ⟨rfl, rfl⟩
      go_wp2_with fail
      refine (rexp_any n _).mono ?_; rintro e w' ⟨rfl, rfl⟩
      go_wp2_with fail
      refine (tpow_any t 0 (by omega) n _ hh.out).mono ?_; rintro e w' ⟨rfl, rfl⟩
      go_wp2_with fail
      refine (rpow_any 0 (by omega) n _).mono ?_; rintro e w' ⟨rfl, rfl⟩
      go_wp2_with fail
      go_ret
      exact ⟨rfl, hx1.trans hx⟩
    · have ap : 0 < (A : Int) := by omega
      have hxor : bits .xor .u8 (A : Int) 0 = (A : Int) := by rw [Nat.xor_zero] at hxor0; exact hxor0
      clear hxor0
      go_enter Try.func12, Try.ntmps12
      go_wp2_with fail
      refine (gfawake_any _).mono ?_; rintro e w1 ⟨rfl, hx1⟩
      go_wp2_with fail
      refine (new_any _).mono ?_; rintro e w2 ⟨t, ht, rfl, hT, hx⟩
      have hh := Lib.hid hT
      clear hT
      go_wp2_with fail
      refine (div_none t A _ hh.out).mono ?_; rintro e w' ⟨rfl, rfl⟩
      go_wp2_with fail
      refine (rdiv_none A ha _).mono ?_; rintro e w' ⟨rfl, rfl⟩
      go_wp2_with fail
      refine (inv_any t A ha a0 _ hh.out).mono ?_; rintro e w' ⟨rfl, rfl⟩
      go_wp2_with fail
      refine (rinv_any A ha a0 _).mono ?_; rintro e w' ⟨rfl, rfl⟩
      go_wp2_with fail
      refine (log_any t A ha a0 _ hh.out).mono ?_; rintro e w' ⟨rfl, rfl⟩
      go_wp2_with fail
      refine (rlog_any A ha a0 _).mono ?_; rintro e w' ⟨rfl, rfl⟩
      go_wp2_with fail
      refine (add_any A 0 (by omega) (by omega) _).mono ?_; rintro e w' ⟨rfl, rfl⟩
      go_wp2_with fail
      refine (mul_any A 0 (by omega) (by omega) _).mono ?_; rintro e w' ⟨rfl, rfl⟩
      go_wp2_with fail
      refine (rmul_any A 0 (by omega) (by omega) _).mono ?_; rintro e w' ⟨rfl, rfl⟩
      go_wp2_with fail
      refine (tmul_any t A 0 (by omega) (by omega) _ hh.out).mono ?_; rintro e w' ⟨rfl, rfl⟩
      go_wp2_with fail
      refine (rmul_any A 0 (by omega) (by omega) _).mono ?_; rintro e w' ⟨rfl, rfl⟩
      go_wp2_with fail
      refine (exp_any t n _ hh.out).mono ?_; rintro e w' ⟨rfl, rfl⟩
      go_wp2_with fail
      refine (rexp_any n _).mono ?_; rintro e w' ⟨rfl, rfl⟩
      go_wp2_with fail
      refine (tpow_any t A (by omega) n _ hh.out).mono ?_; rintro e w' ⟨rfl, rfl⟩
      go_wp2_with fail
      refine (rpow_any A (by omega) n _).mono ?_; rintro e w' ⟨rfl, rfl⟩
      go_wp2_with fail
      go_ret
      exact ⟨rfl, hx1.trans hx⟩
  · have bp : 0 < (B : Int) := by omega
    by_cases a0 : A = 0
    · subst a0
      have hz := gmul_zero_left (ginv B)
      have hxor : bits .xor .u8 0 (B : Int) = (B : Int) := by rw [Nat.zero_xor] at hxor0; exact hxor0
      clear hxor0
      go_enter Try.func12, Try.ntmps12
      go_wp2_with fail
      refine (gfawake_any _).mono ?_; rintro e w1 ⟨rfl, hx1⟩
      go_wp2_with fail
      refine (new_any _).mono ?_; rintro e w2 ⟨t, ht, rfl, hT, hx⟩
      have hh := Lib.hid hT
      clear hT
      go_wp2_with fail
      refine (div_zero t B hb b0 _ hh.out).mono ?_; rintro e w' ⟨rfl, rfl⟩
      go_wp2_with fail
      refine (rdiv_any 0 B (by decide) hb b0 _).mono ?_; rintro e w' ⟨rfl, rfl⟩
      go_wp2_with fail
      refine (inv_none t _ hh.out).mono ?_; rintro e w' ⟨rfl, rfl⟩
      go_wp2_with fail
      refine (rinv_zero _).mono ?_; rintro e w' ⟨rfl, rfl⟩
      go_wp2_with fail
      refine (log_zero t _ hh.out).mono ?_; rintro e w' ⟨rfl, rfl⟩
      go_wp2_with fail
      refine (rlog_zero _).mono ?_; rintro e w' ⟨rfl, rfl⟩
      go_wp2_with fail
      refine (add_any 0 B (by omega) (by omega) _).mono ?_; rintro e w' ⟨rfl, rfl⟩
      go_wp2_with fail
      refine (mul_any 0 B (by omega) (by omega) _).mono ?_; rintro e w' ⟨rfl, rfl⟩
      go_wp2_with fail
      refine (rmul_any 0 B (by omega) (by omega) _).mono ?_; rintro e w' ⟨rfl, rfl⟩
      go_wp2_with fail
      refine (tmul_any t 0 B (by omega) (by omega) _ hh.out).mono ?_; rintro e w' ⟨rfl, rfl⟩
      go_wp2_with fail
      refine (rmul_any 0 B (by omega) (by omega) _).mono ?_; rintro e w' ⟨rfl, rfl⟩
      go_wp2_with fail
      refine (exp_any t n _ hh.out).mono ?_; rintro e w' ⟨rfl, rfl⟩
      go_wp2_with fail
      refine (rexp_any n _).mono ?_; rintro e w' ⟨rfl, rfl⟩
      go_wp2_with fail
      refine (tpow_any t 0 (by omega) n _ hh.out).mono ?_; rintro e w' ⟨rfl, rfl⟩
      go_wp2_with fail
      refine (rpow_any 0 (by omega) n _).mono ?_; rintro e w' ⟨rfl, rfl⟩
      go_wp2_with fail
      go_ret
      exact ⟨rfl, hx1.trans hx⟩
    · have ap : 0 < (A : Int) := by omega
      have hd := ex_div A B ha a0 hb
      go_enter Try.func12, Try.ntmps12
      go_wp2_with fail
      refine (gfawake_any _).mono ?_; rintro e w1 ⟨rfl, hx1⟩
      go_wp2_with fail
      refine (new_any _).mono ?_; rintro e w2 ⟨t, ht, rfl, hT, hx⟩
      have hh := Lib.hid hT
      clear hT
      go_wp2_with fail
      refine (div_any t A B ha a0 hb b0 _ hh.out).mono ?_; rintro e w' ⟨rfl, rfl⟩
      go_wp2_with fail
      refine (rdiv_any A B ha hb b0 _).mono ?_; rintro e w' ⟨rfl, rfl⟩
      go_wp2_with fail
      refine (inv_any t A ha a0 _ hh.out).mono ?_; rintro e w' ⟨rfl, rfl⟩
      go_wp2_with fail
      refine (rinv_any A ha a0 _).mono ?_; rintro e w' ⟨rfl, rfl⟩
      go_wp2_with fail
      refine (log_any t A ha a0 _ hh.out).mono ?_; rintro e w' ⟨rfl, rfl⟩
      go_wp2_with fail
      refine (rlog_any A ha a0 _).mono ?_; rintro e w' ⟨rfl, rfl⟩
      go_wp2_with fail
      refine (add_any A B (by omega) (by omega) _).mono ?_; rintro e w' ⟨rfl, rfl⟩
      go_wp2_with fail
      refine (mul_any A B (by omega) (by omega) _).mono ?_; rintro e w' ⟨rfl, rfl⟩
      go_wp2_with fail
      refine (rmul_any A B (by omega) (by omega) _).mono ?_; rintro e w' ⟨rfl, rfl⟩
      go_wp2_with fail
      refine (tmul_any t A B (by omega) (by omega) _ hh.out).mono ?_; rintro e w' ⟨rfl, rfl⟩
      go_wp2_with fail
      refine (rmul_any A B (by omega) (by omega) _).mono ?_; rintro e w' ⟨rfl, rfl⟩
      go_wp2_with fail
      refine (exp_any t n _ hh.out).mono ?_; rintro e w' ⟨rfl, rfl⟩
      go_wp2_with fail
      refine (rexp_any n _).mono ?_; rintro e w' ⟨rfl, rfl⟩
      go_wp2_with fail
      refine (tpow_any t A (by omega) n _ hh.out).mono ?_; rintro e w' ⟨rfl, rfl⟩
      go_wp2_with fail
      refine (rpow_any A (by omega) n _).mono ?_; rintro e w' ⟨rfl, rfl⟩
      go_wp2_with fail
      go_ret
      exact ⟨rfl, hx1.trans hx⟩
theorem gfReckons_walk (w : World) (a b : UInt8) (n : Int) (_hn : -9223372036854775808 ≤ n ∧ n ≤ 9223372036854775807) :
    Calls Try.prog 12 #[bv a, bv b, .int .i64 n] w fun e w' => e = .returned (.bool true) ∧ Below w.heap.size w w' :=
  gfReckons_nat w a.toNat b.toNat (u8lt a) (u8lt b) n
end Go.Proofs.Ytflockpdojjgeaa
