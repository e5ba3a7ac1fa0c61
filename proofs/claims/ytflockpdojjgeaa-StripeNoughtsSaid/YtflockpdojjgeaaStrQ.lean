/-
  The statement StripeNoughts by its walk.
-/
import Derived.Test.YtflockpdojjgeaaStrN
namespace Go.Proofs.Ytflockpdojjgeaa
open Go.RowKit
set_option maxRecDepth 100000
set_option maxHeartbeats 4000000
attribute [local go_sem] min_int2 max_int2 bstr_toList

theorem join_more {D : List UInt8} {x : UInt8} {k b : Nat} (hk : 0 < k) (hb : 0 < b) (h : Stripe.len D.length k b = Stripe.len (D ++ [x]).length k b) : (Stripe.join (Stripe.rows (D ++ [x]) k b) (Stripe.len D.length k b) b 0).take D.length = D := by
  obtain ⟨z, hz⟩ := Stripe.join_rows_aux _ (D ++ [x]) k b hk hb (Nat.le_refl _)
  rw [h, hz, List.append_assoc, List.take_left' rfl]

theorem stripeNoughts_nat (w : World) (a : Option Addr) (cap : Nat) (D : List UInt8) (hD : Bytes w (.slice a D.length cap) D) (hDl : D.length ≤ maxLen) (K B n b : Nat) (hK : K < 256) (hB : B < 256) (hn : n = 1 + K % 9) (hb : b = 1 + B % 20) (x : UInt8) :
    Calls Try.prog 6 #[.slice a D.length cap, .agg #[.int .u8 K, .int .u8 B], bv x] w fun e w' => e = .returned (.bool true) ∧ Below w.heap.size w w' := by
  unfold maxLen at hDl
  have HD := Lib.hid hD
  clear hD
  have en : 1 + (K : Int) % 9 = (n : Int) := by omega
  have eb : 1 + (B : Int) % 20 = (b : Int) := by omega
  have n1 : 1 ≤ n := by omega
  have n2 : n ≤ 9 := by omega
  have b1 : 1 ≤ b := by omega
  have b2 : b ≤ 20 := by omega
  have R0 := Row.new w 34 #[.int .u8 (K : Int), .int .u8 (B : Int)]
  have e0 : Ext w (w.alloc (.cells #[.int .u8 (K : Int), .int .u8 (B : Int)] 34)) := (Ext.refl w).alloc (Nat.le_refl _) _
  clear hn hb
  by_cases h5 : D.length ≤ 3000
  · go_enter Try.func6, Try.ntmps6
    go_wp2_with fail
    refine (strawake_any _).mono ?_; rintro e w1 ⟨rfl, hx1⟩
    have R1 := R0.ext hx1
    have x1 := e0.trans hx1
    have p0 := R1.cell (i := 0) rfl
    have p1 := R1.cell (i := 1) rfl
    clear R0 hx1
    go_wp2_with fail
    go_quiet (fail)
    go_wp2_with fail
    have x2 : Ext w (w1.drewN nq) := x1.trans (Ext.of_drawn _ _)
    generalize w1.drewN nq = w2 at x2 ⊢
    clear p0 p1 R1 x1
    refine (split_of _ D _ _ n b (by omega) (by omega) (by unfold May; omega) _ (HD.out.ext x2)).mono ?_; rintro e w3 ⟨g, vs, rfl, hO, hx3⟩
    have HO := Lib.hid hO.brows
    have x3 := x2.trans hx3
    clear hO x2 hx3
    have o0 : Own (w3.alloc (.cells #[] 5)) w3.heap.size 5 (.slice (some ⟨w3.heap.size, 0, none⟩) 0 0) (bvs []) := Own.new w3 w3.heap.size 5 #[] (Nat.le_refl _) (by decide)
    have y3 : Ext w3 (w3.alloc (.cells #[] 5)) := (Ext.refl w3).alloc (Nat.le_refl _) _
    go_wp2_with (first | (at_builtin; refine list_of_wp rfl fun K hK => wp_appx _ _ 22 22 5 (.int .u8 0) 1 rfl Try.underlying22 info_u8' rfl rfl o0 rfl (Cells.src Try.underlying22 (HD.out.ext (x3.trans y3)) (bvs_one _)) (by rw [bvs_len, bvs_len]; simp [maxLen]; omega) (by rw [bvs_len, bvs_len]; simp; omega) y3.size D.length (by rw [bvs_len, bvs_len]; simp) fun ad4 c4 w4 ha4 => hK _ _ ?_; have y4 : Ext w3 w4 := Below.grown y3 ha4.2.1 y3.size (fun k hk => by have hk' : some w3.heap.size = some k := hk; injection hk' with hk'; omega); have o4 : Own (w4.alloc (.cells #[bv x] 5)) w3.heap.size 5 (.slice ad4 D.length c4) (bvs D) := Own.ext (ha4.1) ((Ext.refl w4).alloc (Nat.le_refl _) _); have s4 : Bytes (w4.alloc (.cells #[bv x] 5)) (.slice (some ⟨w4.heap.size, 0, none⟩) 1 1) [x] := (Own.new w4 0 5 #[bv x] (Nat.zero_le _) (by simp [maxLen])).cells; have y5 : Ext w3 (w4.alloc (.cells #[bv x] 5)) := y4.trans ((Ext.refl w4).alloc (Nat.le_refl _) _)) | (at_builtin; refine list_of_wp rfl fun K hK => wp_appx _ _ 22 22 5 (.int .u8 0) 1 rfl Try.underlying22 info_u8' rfl rfl o4 rfl (Cells.src Try.underlying22 s4 (bvs_one _)) (by rw [bvs_len, bvs_len]; simp [maxLen]; omega) (by rw [bvs_len, bvs_len]; simp; omega) y5.size (D.length + 1) (by rw [bvs_len, bvs_len]; rfl) fun ad6 c6 w6 ha6 => hK _ _ ?_; have y6 : Ext w3 w6 := Below.grown y5 ha6.2.1 y5.size (fun k hk => (World.ownsRow.lt o4 k hk).1)))
    have hb6 := ha6.1.cells
    rw [← bvs_append] at hb6
    have hl6 : (D ++ [x]).length = D.length + 1 := by simp
    refine (split_of _ (D ++ [x]) _ _ n b (by omega) (by omega) (by rw [hl6]; unfold May; omega) _ hb6).mono ?_; rintro e w7 ⟨g7, vs7, rfl, hO7, hx7⟩
    have HO7 := Lib.hid hO7.brows
    have HO3 := Lib.hid (HO.out.ext (y6.trans hx7))
    have x7 := x3.trans (y6.trans hx7)
    clear hO7 hb6 ha6 ha4 o4 s4 y4 y5 y6 hx7 o0 y3
    obtain ⟨q, hq⟩ : ∃ q, Stripe.len D.length n b = q := ⟨_, rfl⟩
    obtain ⟨r, hr⟩ : ∃ r, Stripe.len (D ++ [x]).length n b = r := ⟨_, rfl⟩
    have q1 := (Stripe.len_mul (n := D.length) (k := n) (b := b) n1 b1).2
    have r1 := (Stripe.len_mul (n := (D ++ [x]).length) (k := n) (b := b) n1 b1).2
    have q2 : Stripe.len D.length n b ≤ Stripe.len D.length n b * n := Nat.le_mul_of_pos_right _ n1
    have r2 : Stripe.len (D ++ [x]).length n b ≤ Stripe.len (D ++ [x]).length n b * n := Nat.le_mul_of_pos_right _ n1
    have q3 : q ≤ 4000 := by omega
    have r3 : r ≤ 4000 := by omega
    obtain ⟨rb, ro, ra, rc, e3, c1, _⟩ := HO3.out.at (i := 0) (l := Stripe.row D n b 0) (by have : 0 < n := n1; simp [Stripe.rows, this])
    simp only [Option.some.injEq, Addr.mk.injEq, and_true] at e3
    obtain ⟨rfl, rfl⟩ := e3
    rw [Stripe.row_length 0 n1 b1, hq, Nat.zero_add] at c1
    obtain ⟨rb, ro, ra', rc', e3, c2, _⟩ := HO7.out.at (i := 0) (l := Stripe.row (D ++ [x]) n b 0) (by have : 0 < n := n1; simp [Stripe.rows, this])
    simp only [Option.some.injEq, Addr.mk.injEq, and_true] at e3
    obtain ⟨rfl, rfl⟩ := e3
    rw [Stripe.row_length 0 n1 b1, hr, Nat.zero_add] at c2
    clear q1 r1 q2 r2
    have HQ := Lib.hid hq
    have HR := Lib.hid hr
    have HL := Lib.hid hl6
    clear hq hr hl6
    by_cases hqr : q = r
    · subst hqr
      go_wp2_with fail
      go_quiet (fail)
      have x8 : Ext w7 (w7.drewN nq) := Ext.of_drawn _ _
      generalize w7.drewN nq = w8 at x8 ⊢
      have HO8 := Lib.hid (HO7.out.ext x8)
      have x9 := x7.trans x8
      clear c1 c2
      go_wp2_with fail
      refine (join_of _ (Stripe.rows (D ++ [x]) n b) _ _ D.length b (by omega) (by omega) (by rw [Stripe.rows_len]; unfold May; omega) (by rw [Stripe.rows_len, HQ.out, ← HR.out]; exact Stripe.rows_each n1 b1) _ HO8.out).mono ?_; rintro e w10 ⟨y, rfl, hY, hx10⟩
      rw [Stripe.rows_len, join_more n1 b1 (by rw [HQ.out, HR.out])] at hY
      have z1 := str_conv hY w10 (Ext.refl _)
      have z2 := str_conv (HD.out.ext (x9.trans hx10)) w10 (Ext.refl _)
      clear hY
      go_wp2_with fail
      go_ret
      exact ⟨rfl, x9.trans hx10⟩
    · have hne : ((q : Int) != (r : Int)) = true := by simp; omega
      have hne2 : ((q : Int) == (r : Int)) = false := by simp; omega
      go_wp2_with fail
      go_quiet (fail)
      go_wp2_with fail
      go_ret
      exact ⟨rfl, x7.trans (Ext.of_drawn _ _)⟩
  · go_enter Try.func6, Try.ntmps6
    go_wp2_with fail
    refine (strawake_any _).mono ?_; rintro e w1 ⟨rfl, hx1⟩
    go_wp2
    go_ret
    exact ⟨rfl, e0.trans hx1⟩
theorem stripeNoughts_walk (w : World) (v : Value) (D : List UInt8) (hD : Bytes w v D) (hDl : D.length ≤ maxLen) (k b x : UInt8) :
    Calls Try.prog 6 #[v, .agg #[bv k, bv b], bv x] w fun e w' => e = .returned (.bool true) ∧ Below w.heap.size w w' := by
  obtain ⟨a, cap, e, -, -, -⟩ := id hD
  rw [bvs_len] at e
  subst e
  exact stripeNoughts_nat w a cap D hD hDl k.toNat b.toNat _ _ k.toNat_lt b.toNat_lt rfl rfl x
end Go.Proofs.Ytflockpdojjgeaa
