/-
  The statement StripeLengths by its walk.
-/
import Derived.Test.YtflockpdojjgeaaStrL
namespace Go.Proofs.Ytflockpdojjgeaa
open Go.RowKit
set_option maxRecDepth 100000
set_option maxHeartbeats 4000000
attribute [local go_sem] min_int2 max_int2 bstr_toList

theorem len_add {s k b : Nat} (hk : 0 < k) (hb : 0 < b) : Stripe.len (s + k * b) k b = Stripe.len s k b + b := by
  unfold Stripe.len
  have hp : 0 < k * b := Nat.mul_pos hk hb
  rw [Nat.add_div_right _ hp, Nat.add_mod_right, Nat.succ_mul]; omega
theorem up_mono {m n k : Nat} (h : m ≤ n) : Stripe.up m k ≤ Stripe.up n k := by
  unfold Stripe.up
  exact Nat.div_le_div_right (by omega)
theorem len_mono {s k b : Nat} (hk : 0 < k) (hb : 0 < b) : Stripe.len s k b ≤ Stripe.len (s + 1) k b := by
  unfold Stripe.len
  have hp : 0 < k * b := Nat.mul_pos hk hb
  have h1 := Nat.div_add_mod s (k * b)
  have h2 := Nat.mod_lt s hp
  by_cases h : s % (k * b) + 1 < k * b
  · have e1 : (s + 1) / (k * b) = s / (k * b) := by
      rw [← h1, Nat.add_assoc, Nat.mul_add_div hp, Nat.div_eq_of_lt h, Nat.mul_add_div hp, Nat.div_eq_of_lt h2]
    have e2 : (s + 1) % (k * b) = s % (k * b) + 1 := by
      rw [← h1, Nat.add_assoc, Nat.mul_add_mod, Nat.mod_eq_of_lt h, Nat.mul_add_mod, Nat.mod_eq_of_lt h2]
    rw [e1, e2]
    have := up_mono (k := k) (Nat.le_succ (s % (k * b)))
    simp only [Nat.succ_eq_add_one] at this
    omega
  · have e0 : s + 1 = k * b * (s / (k * b) + 1) := by rw [Nat.mul_add]; omega
    have e1 : (s + 1) / (k * b) = s / (k * b) + 1 := by rw [e0, Nat.mul_div_cancel_left _ hp]
    have hu : Stripe.up (s % (k * b)) k ≤ b := (Stripe.up_le hk).2 (by have := Nat.mul_comm b k; omega)
    rw [e1, Nat.succ_mul]; omega
theorem length_of (S K B : Int) (s k b : Nat) (hS : S = s) (hK : K = k) (hB : B = b) (h : May s k b) (w : World) :
    Calls Try.prog 20 #[.int .i64 S, .int .i64 K, .int .i64 B] w fun e w' => e = .returned (.int .i64 (Stripe.len s k b : Nat)) ∧ Ext w w' := by
  subst hS hK hB; exact length_yes s k b h w
theorem rlength_of (S K B : Int) (s k b : Nat) (hS : S = s) (hK : K = k) (hB : B = b) (h : May s k b) (w : World) :
    Calls Try.prog 21 #[.int .i64 S, .int .i64 K, .int .i64 B] w fun e w' => e = .returned (.int .i64 (Stripe.len s k b : Nat)) ∧ w = w' := by
  subst hS hK hB; exact rlength_yes s k b h w

theorem stripeLengths_nat (w : World) (s K B n b : Nat) (hs : s < 65536) (hK : K < 256) (hB : B < 256) (hn : n = 1 + K % 20) (hb : b = 1 + B % 60) :
    Calls Try.prog 7 #[.int .u16 s, .int .u8 K, .int .u8 B] w fun e w' => e = .returned (.bool true) ∧ Below w.heap.size w w' := by
  have en : 1 + (K : Int) % 20 = (n : Int) := by omega
  have eb : 1 + (B : Int) % 60 = (b : Int) := by omega
  have n1 : 1 ≤ n := by omega
  have n2 : n ≤ 20 := by omega
  have b1 : 1 ≤ b := by omega
  have b2 : b ≤ 60 := by omega
  have l1 := Stripe.len_mul (n := s) (k := n) (b := b) n1 b1
  obtain ⟨a, ha⟩ : ∃ a, Stripe.len s n b = a := ⟨_, rfl⟩
  have l2 := len_add (s := s) (k := n) (b := b) n1 b1
  have l3 := len_mono (s := s) (k := n) (b := b) n1 b1
  rw [ha] at l1 l2 l3
  obtain ⟨p, hp⟩ : ∃ p, n * b = p := ⟨_, rfl⟩
  have hpi : (n : Int) * (b : Int) = (p : Int) := by rw [← hp]; simp
  have p2 : p ≤ 1200 := by rw [← hp]; exact Nat.mul_le_mul n2 b2
  rw [hp] at l2
  obtain ⟨q, hq⟩ : ∃ q, a * n = q := ⟨_, rfl⟩
  have hqi : (a : Int) * (n : Int) = (q : Int) := by rw [← hq]; simp
  rw [hq] at l1
  have ha2 : a ≤ q := by rw [← hq]; exact Nat.le_mul_of_pos_right _ n1
  clear hn hb hp hq
  have L2 := Lib.hid l2
  have HA := Lib.hid ha
  obtain ⟨a3, ha3⟩ : ∃ a3, Stripe.len (s + 1) n b = a3 := ⟨_, rfl⟩
  rw [ha3] at l3
  have HA3 := Lib.hid ha3
  clear l2 ha ha3
  by_cases h6 : s ≤ 60000
  · go_enter Try.func7, Try.ntmps7
    go_wp2_with fail
    refine (strawake_any _).mono ?_; rintro e w1 ⟨rfl, hx1⟩
    go_wp2_with fail
    refine (length_of _ _ _ s n b (by omega) (by omega) (by omega) (by unfold May; omega) _).mono ?_; rintro e w2 ⟨rfl, hx2⟩
    rw [HA.out]
    go_wp2_with fail
    refine (rlength_of _ _ _ s n b (by omega) (by omega) (by omega) (by unfold May; omega) _).mono ?_; rintro e w' ⟨rfl, rfl⟩
    rw [HA.out]
    go_wp2_with fail
    refine (length_of _ _ _ (s + p) n b (by omega) (by omega) (by omega) (by unfold May; omega) _).mono ?_; rintro e w3 ⟨rfl, hx3⟩
    rw [L2.out]
    go_wp2_with fail
    refine (length_of _ _ _ (s + 1) n b (by omega) (by omega) (by omega) (by unfold May; omega) _).mono ?_; rintro e w4 ⟨rfl, hx4⟩
    rw [HA3.out]
    go_wp2_with fail
    refine (length_of _ _ _ 0 n b (by omega) (by omega) (by omega) (by unfold May; omega) _).mono ?_; rintro e w5 ⟨rfl, hx5⟩
    rw [Stripe.len_zero n1]
    go_wp2_with fail
    refine (length_no _ _ _ (by unfold May; omega) _).mono ?_; rintro e w' ⟨rfl, rfl⟩
    go_wp2_with fail
    go_ret
    exact ⟨rfl, hx1.trans (hx2.trans (hx3.trans (hx4.trans hx5)))⟩
  · have h7 : 60000 < s := by omega
    go_enter Try.func7, Try.ntmps7
    go_wp2_with fail
    refine (strawake_any _).mono ?_; rintro e w1 ⟨rfl, hx1⟩
    go_wp2_with fail
    refine (length_of _ _ _ s n b (by omega) (by omega) (by omega) (by unfold May; omega) _).mono ?_; rintro e w2 ⟨rfl, hx2⟩
    rw [HA.out]
    go_wp2_with fail
    go_ret
    exact ⟨rfl, hx1.trans hx2⟩
theorem stripeLengths_walk (w : World) (s : Nat) (hs : s < 65536) (k b : UInt8) :
    Calls Try.prog 7 #[.int .u16 s, bv k, bv b] w fun e w' => e = .returned (.bool true) ∧ Below w.heap.size w w' :=
  stripeLengths_nat w s k.toNat b.toNat _ _ hs k.toNat_lt b.toNat_lt rfl rfl
end Go.Proofs.Ytflockpdojjgeaa
