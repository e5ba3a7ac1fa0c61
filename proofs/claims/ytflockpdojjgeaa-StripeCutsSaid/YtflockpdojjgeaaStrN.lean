/-
  The statement StripeBack by its walk.
-/
import Derived.Test.YtflockpdojjgeaaStrM
namespace Go.Proofs.Ytflockpdojjgeaa
open Go.RowKit
set_option maxRecDepth 100000
set_option maxHeartbeats 4000000
attribute [local go_sem] min_int2 max_int2 bstr_toList

theorem split_of (v : Value) (D : List UInt8) (K B : Int) (k b : Nat) (hK : K = k) (hB : B = b) (h : May D.length k b) (w : World) (hD : Bytes w v D) :
    Calls Try.prog 15 #[v, .int .i64 K, .int .i64 B] w fun e w' => ∃ g vs, e = .returned (.tuple #[.slice (some ⟨g, 0, none⟩) k k, .bool true]) ∧
      ORows w' w.heap.size g k vs (Stripe.rows D k b) ∧ Ext w w' := by
  subst hK hB; exact split_yes v D k b h w hD
theorem join_of (v : Value) (ls : List (List UInt8)) (S B : Int) (s b : Nat) (hS : S = s) (hB : B = b) (h : May s ls.length b) (heven : ∀ r ∈ ls, r.length = Stripe.len s ls.length b) (w : World) (hR : BRows w v ls) :
    Calls Try.prog 17 #[v, .int .i64 S, .int .i64 B] w fun e w' =>
      ∃ x, e = .returned (.tuple #[x, .bool true]) ∧ Bytes w' x ((Stripe.join ls (Stripe.len s ls.length b) b 0).take s) ∧ Ext w w' := by
  subst hS hB; exact join_yes v ls s b h heven w hR

theorem stripeBack_nat (w : World) (a : Option Addr) (cap : Nat) (D : List UInt8) (hD : Bytes w (.slice a D.length cap) D) (hDl : D.length ≤ maxLen) (K B n b : Nat) (hK : K < 256) (hB : B < 256) (hn : n = 1 + K % 20) (hb : b = 1 + B % 60) :
    Calls Try.prog 4 #[.slice a D.length cap, .int .u8 K, .int .u8 B] w fun e w' => e = .returned (.bool true) ∧ Below w.heap.size w w' := by
  unfold maxLen at hDl
  have HD := Lib.hid hD
  clear hD
  have en : 1 + (K : Int) % 20 = (n : Int) := by omega
  have eb : 1 + (B : Int) % 60 = (b : Int) := by omega
  have n1 : 1 ≤ n := by omega
  have n2 : n ≤ 20 := by omega
  have b1 : 1 ≤ b := by omega
  have b2 : b ≤ 60 := by omega
  clear hn hb
  by_cases h5 : D.length ≤ 5000
  · have l1 := Stripe.len_mul (n := D.length) (k := n) (b := b) n1 b1
    obtain ⟨q, hq⟩ : ∃ q, Stripe.len D.length n b = q := ⟨_, rfl⟩
    rw [hq] at l1
    obtain ⟨t, ht⟩ : ∃ t, q * n = t := ⟨_, rfl⟩
    rw [ht] at l1
    have HQ := Lib.hid hq
    have HT := Lib.hid ht
    have hqt : q ≤ t := by rw [← ht]; exact Nat.le_mul_of_pos_right _ n1
    clear hq ht
    go_enter Try.func4, Try.ntmps4
    go_wp2_with fail
    refine (strawake_any _).mono ?_; rintro e w1 ⟨rfl, hx1⟩
    go_wp2_with fail
    refine (split_of _ D _ _ n b (by omega) (by omega) (by unfold May; omega) _ (HD.out.ext hx1)).mono ?_; rintro e w2 ⟨g, vs, rfl, hO, hx2⟩
    have HO := Lib.hid hO.brows
    clear hO
    go_wp2_with fail
    refine (length_of _ _ _ D.length n b (by omega) (by omega) (by omega) (by unfold May; omega) _).mono ?_; rintro e w3 ⟨rfl, hx3⟩
    rw [HQ.out]
    have HO3 := Lib.hid (HO.out.ext hx3)
    go_wp2_with fail
    go_loop [12, 13] (fun v12 v13 => ∃ i s : Nat, i ≤ n ∧ Hid (s = q * i) ∧ v12 = .int .i64 s ∧ v13 = .int .i64 i) (fun _ v13 => (n - intOf v13).toNat)
    case atStart => exact ⟨0, 0, by omega, Lib.hid (by simp), rfl, rfl⟩
    case round =>
      obtain ⟨i, s, hi, hs, rfl, rfl⟩ := hrel
      by_cases hlt : i < n
      · obtain ⟨rb, ro, ra, rc, e3, c1, hbb⟩ := HO3.out.at (i := i) (l := Stripe.row D n b i) (by simp [Stripe.rows, hlt])
        simp only [Option.some.injEq, Addr.mk.injEq, and_true] at e3
        obtain ⟨rfl, rfl⟩ := e3
        rw [Stripe.row_length i n1 b1, HQ.out, Nat.zero_add] at c1
        have hss : s + q ≤ t := by
          have : q * (i + 1) ≤ q * n := Nat.mul_le_mul_left q (by omega)
          rw [Nat.mul_succ, ← hs.out, HT.out] at this; exact this
        clear hbb
        go_wp2
        go_round
        case rel => exact ⟨i + 1, s + q, by omega, Lib.hid (by rw [hs.out, Nat.mul_succ]), by go_num, by go_num⟩
        case measure => simp [intOf]; omega
      · obtain rfl : i = n := by omega
        have hst : s = t := by rw [hs.out, HT.out]
        subst hst
        clear hlt
        go_wp2_with fail
        refine (join_of _ (Stripe.rows D i b) _ _ D.length b (by omega) (by omega) (by rw [Stripe.rows_len]; unfold May; omega) (by rw [Stripe.rows_len]; exact Stripe.rows_each n1 b1) _ HO3.out).mono ?_; rintro e w4 ⟨x, rfl, hX, hx4⟩
        rw [Stripe.rows_len, Stripe.join_rows n1 b1] at hX
        have y1 := str_conv hX w4 (Ext.refl _)
        have hx14 := hx1.trans (hx2.trans (hx3.trans hx4))
        have y2 := str_conv (HD.out.ext hx14) w4 (Ext.refl _)
        clear hX
        go_wp2_with fail
        go_ret
        exact ⟨ret_b (decide_eq_true (by omega)), hx14⟩
  · go_enter Try.func4, Try.ntmps4
    go_wp2_with fail
    refine (strawake_any _).mono ?_; rintro e w1 ⟨rfl, hx1⟩
    go_wp2
    go_ret
    exact ⟨rfl, hx1⟩
theorem stripeBack_walk (w : World) (v : Value) (D : List UInt8) (hD : Bytes w v D) (hDl : D.length ≤ maxLen) (k b : UInt8) :
    Calls Try.prog 4 #[v, bv k, bv b] w fun e w' => e = .returned (.bool true) ∧ Below w.heap.size w w' := by
  obtain ⟨a, cap, e, -, -, -⟩ := id hD
  rw [bvs_len] at e
  subst e
  exact stripeBack_nat w a cap D hD hDl k.toNat b.toNat _ _ k.toNat_lt b.toNat_lt rfl rfl
end Go.Proofs.Ytflockpdojjgeaa
