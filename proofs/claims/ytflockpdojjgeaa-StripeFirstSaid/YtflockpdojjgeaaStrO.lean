/-
  The statement StripeFirst by its walk.
-/
import Derived.Test.YtflockpdojjgeaaStrN
namespace Go.Proofs.Ytflockpdojjgeaa
open Go.RowKit
set_option maxRecDepth 100000
set_option maxHeartbeats 4000000
attribute [local go_sem] min_int2 max_int2 bstr_toList

theorem cut_get (n : Nat) (D : List UInt8) (i j : Nat) (hj : j < n) : (Stripe.cut n D i)[j]? = some (D.getD (i * n + j) 0) := by
  unfold Stripe.cut Stripe.pad
  rw [List.getElem?_append, List.getD_eq_getElem?_getD]
  by_cases h : j < ((D.drop (i * n)).take n).length
  · rw [if_pos h]
    have h2 : i * n + j < D.length := by rw [List.length_take, List.length_drop] at h; omega
    rw [List.getElem?_take_of_lt hj, List.getElem?_drop, List.getElem?_eq_getElem h2]; rfl
  · rw [if_neg h]
    have h2 : D.length ≤ i * n + j := by rw [List.length_take, List.length_drop] at h; omega
    rw [List.getElem?_eq_none h2, List.getElem?_replicate, if_pos (by rw [List.length_take, List.length_drop] at *; omega)]; rfl
theorem row_get {k b : Nat} (hk : 0 < k) (hb : 0 < b) : ∀ (m : Nat) (D : List UInt8) (i t : Nat), m * b < Stripe.len D.length k b → t < min b (Stripe.len D.length k b - m * b) →
    (Stripe.row D k b i)[m * b + t]? = some (D.getD (k * (m * b) + i * min b (Stripe.len D.length k b - m * b) + t) 0)
  | 0, D, i, t, h, ht => by
    rw [Nat.zero_mul] at *
    have hD : D ≠ [] := by
      intro h0; subst h0; rw [List.length_nil, Stripe.len_zero hk] at h; omega
    have hw : min b (Stripe.len D.length k b - 0) = Stripe.blk D.length k b := by
      by_cases hs : k * b ≤ D.length
      · obtain ⟨e1, e2⟩ := Stripe.len_big hb hk hs
        rw [e1, e2]; omega
      · rw [Stripe.len_small hb hk (by omega)]; unfold Stripe.blk; omega
    rw [hw] at ht ⊢
    rw [Stripe.row_step i hD hk hb, List.getElem?_append_left (by rw [Stripe.cut_len]; omega), Nat.zero_add, Nat.mul_zero, Nat.zero_add, cut_get _ _ _ _ ht]
  | m + 1, D, i, t, h, ht => by
    rw [Nat.succ_mul] at *
    have hD : D ≠ [] := by
      intro h0; subst h0; rw [List.length_nil, Stripe.len_zero hk] at h; omega
    by_cases hs : k * b ≤ D.length
    · obtain ⟨e1, e2⟩ := Stripe.len_big hb hk hs
      rw [e2] at h ht ⊢
      have e3 : b + Stripe.len (D.length - k * b) k b - (m * b + b) = Stripe.len (D.length - k * b) k b - m * b := by omega
      rw [e3] at ht ⊢
      have ih := row_get hk hb m (D.drop (k * b)) i t (by rw [List.length_drop]; omega) (by rw [List.length_drop]; exact ht)
      rw [Stripe.row_step i hD hk hb, e1, List.getElem?_append_right (by rw [Stripe.cut_len]; omega), Stripe.cut_len, show m * b + b + t - b = m * b + t by omega, ih]
      congr 1
      rw [List.length_drop, List.getD_eq_getElem?_getD, List.getD_eq_getElem?_getD, List.getElem?_drop]
      congr 2
      rw [Nat.mul_add]; omega
    · exfalso
      rw [Stripe.len_small hb hk (by omega)] at h
      unfold Stripe.blk at h; omega

theorem stripeFirst_nat (w : World) (a : Option Addr) (cap : Nat) (D : List UInt8) (hD : Bytes w (.slice a D.length cap) D) (hDl : D.length ≤ maxLen) (K B n b : Nat) (hK : K < 256) (hB : B < 256) (hn : n = 1 + K % 9) (hb : b = 1 + B % 20) :
    Calls Try.prog 5 #[.slice a D.length cap, .int .u8 K, .int .u8 B] w fun e w' => e = .returned (.bool true) ∧ Below w.heap.size w w' := by
  unfold maxLen at hDl
  have HD := Lib.hid hD
  clear hD
  have en : 1 + (K : Int) % 9 = (n : Int) := by omega
  have eb : 1 + (B : Int) % 20 = (b : Int) := by omega
  have n1 : 1 ≤ n := by omega
  have n2 : n ≤ 9 := by omega
  have b1 : 1 ≤ b := by omega
  have b2 : b ≤ 20 := by omega
  clear hn hb
  by_cases h5 : D.length ≤ 3000
  · have l1 := Stripe.len_mul (n := D.length) (k := n) (b := b) n1 b1
    obtain ⟨q, hq⟩ : ∃ q, Stripe.len D.length n b = q := ⟨_, rfl⟩
    rw [hq] at l1
    obtain ⟨t, ht⟩ : ∃ t, n * q = t := ⟨_, rfl⟩
    rw [Nat.mul_comm, ht] at l1
    have HQ := Lib.hid hq
    have HT := Lib.hid ht
    have hqt : q ≤ t := by rw [← ht]; exact Nat.le_mul_of_pos_left _ n1
    clear hq ht
    go_enter Try.func5, Try.ntmps5
    go_wp2_with fail
    refine (strawake_any _).mono ?_; rintro e w1 ⟨rfl, hx1⟩
    go_wp2_with fail
    refine (split_of _ D _ _ n b (by omega) (by omega) (by unfold May; omega) _ (HD.out.ext hx1)).mono ?_; rintro e w2 ⟨g, vs, rfl, hO, hx2⟩
    have HO := Lib.hid hO.brows
    have HD2 := Lib.hid (HD.out.ext (hx1.trans hx2))
    clear hO
    obtain ⟨rb, ro, ra, rc, e3, c1, hbb⟩ := HO.out.at (i := 0) (l := Stripe.row D n b 0) (by have : 0 < n := n1; simp [Stripe.rows, this])
    simp only [Option.some.injEq, Addr.mk.injEq, and_true] at e3
    obtain ⟨rfl, rfl⟩ := e3
    rw [Stripe.row_length 0 n1 b1, HQ.out, Nat.zero_add] at c1
    clear hbb
    go_wp2_with fail
    go_loop [11, 13] (fun v11 v13 => ∃ m s p : Nat, Hid (s = m * b) ∧ s ≤ q + b ∧ Hid (p = n * min s q) ∧ p ≤ t ∧ v13 = .int .i64 s ∧ v11 = .int .i64 p) (fun _ v13 => (q + b - intOf v13).toNat)
    case atStart => exact ⟨0, 0, 0, Lib.hid (by simp), by omega, Lib.hid (by simp), by omega, rfl, rfl⟩
    case round =>
      obtain ⟨m, s, p, hs, hsq, hp, hpt, rfl, rfl⟩ := hrel
      by_cases hlt : s < q
      · have hlt' : (s : Int) < (q : Int) := by omega
        obtain ⟨z, hz⟩ : ∃ z, min b (q - s) = z := ⟨_, rfl⟩
        have hz' : min (b : Int) ((q : Int) - (s : Int)) = (z : Int) := by omega
        have z1 : 1 ≤ z := by omega
        have z2 : s + z ≤ q := by omega
        have HZ := Lib.hid hz
        have hp2 : Hid (p = n * s) := by rw [hp.out, Nat.min_eq_left (by omega)]; exact Lib.hid rfl
        have hnext : Hid (n * (s + z) = n * min (s + b) q) := by rw [← hz]; congr 1; omega
        have hnz : Hid (n * (s + z) ≤ t) := by rw [← HT.out]; exact Nat.mul_le_mul_left n z2
        clear hz
        go_wp2_with fail
        go_loop [11, 15] (fun v11 v15 => ∃ i y : Nat, i ≤ n ∧ Hid (y = p + i * z) ∧ y ≤ t ∧ v15 = .int .i64 i ∧ v11 = .int .i64 y) (fun _ v15 => (n - intOf v15).toNat)
        case atStart => exact ⟨0, p, by omega, Lib.hid (by simp), hpt, rfl, rfl⟩
        case round =>
          obtain ⟨i, y, hi, hy, hyt, rfl, rfl⟩ := hrel
          by_cases hli : i < n
          · have hyz : y + z ≤ t := by
              have h1 := hnz.out
              have h2 : (i + 1) * z ≤ n * z := Nat.mul_le_mul_right z (by omega)
              rw [Nat.mul_add, ← hp2.out] at h1
              rw [Nat.succ_mul] at h2
              rw [hy.out]; omega
            obtain ⟨rb, ro, ra, rc, e3, c2, hbb⟩ := HO.out.at (i := i) (l := Stripe.row D n b i) (by simp [Stripe.rows, hli])
            simp only [Option.some.injEq, Addr.mk.injEq, and_true] at e3
            obtain ⟨rfl, rfl⟩ := e3
            rw [Stripe.row_length i n1 b1, HQ.out] at c2 hbb
            rw [Nat.zero_add] at c2
            have HBB := Lib.hid hbb
            clear hbb
            go_wp2_with fail
            go_loop [11, 16] (fun v11 v16 => ∃ j : Nat, s ≤ j ∧ j ≤ s + z ∧ v16 = .int .i64 j ∧ v11 = .int .i64 ((y + (j - s) : Nat) : Int)) (fun _ v16 => (s + z - intOf v16).toNat)
            case atStart => exact ⟨s, by omega, by omega, rfl, by rw [Nat.sub_self]; rfl⟩
            case round =>
              obtain ⟨j, hj1, hj2, rfl, rfl⟩ := hrel
              by_cases hlj : j < s + z
              · obtain ⟨x, hx⟩ : ∃ x, y + (j - s) = x := ⟨_, rfl⟩
                have hxt : x ≤ t := by omega
                have hg := row_get n1 b1 m D i (j - s) (by rw [HQ.out, ← hs.out]; omega) (by rw [HQ.out, ← hs.out, HZ.out]; omega)
                rw [HQ.out, ← hs.out, HZ.out, ← hp2.out, ← hy.out, hx, show s + (j - s) = j by omega] at hg
                have hcell : ∃ rb ro, ra = some ⟨rb, ro, none⟩ ∧ w2.cell? ⟨rb, ro + j, none⟩ = some (bv (D.getD x 0)) := by
                  refine HBB.out.at ?_
                  rw [List.getElem?_map, hg]; rfl
                obtain ⟨rb, ro, rfl, c3⟩ := hcell
                rw [hx]
                have hxn : y + (j + 1 - s) = x + 1 := by omega
                have HXN := Lib.hid hxn
                have HX := Lib.hid hx
                clear hg hxn hx
                by_cases hxD : x < D.length
                · obtain ⟨db, dof, rfl, c4⟩ := HD2.out.at (bvs_get hxD)
                  have e5 : D.getD x 0 = D[x] := by rw [List.getD_eq_getElem?_getD, List.getElem?_eq_getElem hxD]; rfl
                  rw [e5] at c3
                  clear e5
                  go_wp2
                  go_round
                  case rel => exact ⟨j + 1, by omega, by omega, by go_num, by rw [HXN.out]; go_num⟩
                  case measure => simp [intOf]; omega
                · have e5 : D.getD x 0 = 0 := by rw [List.getD_eq_getElem?_getD, List.getElem?_eq_none (by omega)]; rfl
                  rw [e5] at c3
                  have c3' : w2.cell? ⟨rb, ro + j, none⟩ = some (.int .u8 0) := c3
                  clear e5 c3
                  go_wp2
                  go_round
                  case rel => exact ⟨j + 1, by omega, by omega, by go_num, by rw [HXN.out]; go_num⟩
                  case measure => simp [intOf]; omega
              · obtain rfl : j = s + z := by omega
                clear hlj
                have e6 : y + (s + z - s) = y + z := by omega
                rw [e6]
                have e7 : Hid (y + z = p + (i + 1) * z) := by rw [hy.out, Nat.succ_mul]; exact Lib.hid (by omega)
                clear e6
                go_wp2
                go_round
                case rel => exact ⟨i + 1, y + z, by omega, e7, hyz, by go_num, by go_num⟩
                case measure => simp [intOf]; omega
          · obtain rfl : i = n := by omega
            clear hli
            have e8 : Hid (y = i * min (s + b) q) := by rw [← hnext.out, hy.out, Nat.mul_add, ← hp2.out]; exact Lib.hid rfl
            go_wp2
            go_round
            case rel => exact ⟨m + 1, s + b, y, Lib.hid (by rw [Nat.succ_mul, ← hs.out]), by omega, e8, hyt, by go_num, rfl⟩
            case measure => simp [intOf]; omega
      · have hpe : p = t := by rw [hp.out, Nat.min_eq_right (by omega), HT.out]
        subst hpe
        go_wp2
        go_ret
        exact ⟨rfl, hx1.trans hx2⟩
  · go_enter Try.func5, Try.ntmps5
    go_wp2_with fail
    refine (strawake_any _).mono ?_; rintro e w1 ⟨rfl, hx1⟩
    go_wp2
    go_ret
    exact ⟨rfl, hx1⟩
theorem stripeFirst_walk (w : World) (v : Value) (D : List UInt8) (hD : Bytes w v D) (hDl : D.length ≤ maxLen) (k b : UInt8) :
    Calls Try.prog 5 #[v, bv k, bv b] w fun e w' => e = .returned (.bool true) ∧ Below w.heap.size w w' := by
  obtain ⟨a, cap, e, -, -, -⟩ := id hD
  rw [bvs_len] at e
  subst e
  exact stripeFirst_nat w a cap D hD hDl k.toNat b.toNat _ _ k.toNat_lt b.toNat_lt rfl rfl
end Go.Proofs.Ytflockpdojjgeaa
