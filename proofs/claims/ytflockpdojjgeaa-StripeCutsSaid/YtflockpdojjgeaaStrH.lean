/-
  The statement StripeCuts by its walk.
-/
import Derived.Test.YtflockpdojjgeaaStrG
namespace Go.Proofs.Ytflockpdojjgeaa
open Go.RowKit
set_option maxRecDepth 100000
set_option maxHeartbeats 4000000
attribute [local go_sem] min_int2 max_int2 bstr_toList

theorem cutRows_len (D : List UInt8) (K B : Int) : (cutRows D K B).length ≤ maxLen := by
  unfold cutRows
  split
  · rename_i h
    unfold May at h
    rw [Stripe.rows_len]; simp [maxLen]; omega
  · simp

theorem stripeCuts_walk (w : World) (v : Value) (D : List UInt8) (hD : Bytes w v D) (hDl : D.length ≤ maxLen) (n0 : Int) (_b0 : -9223372036854775808 ≤ n0 ∧ n0 ≤ 9223372036854775807) (n1 : Int) (_b1 : -9223372036854775808 ≤ n1 ∧ n1 ≤ 9223372036854775807) (n2 : Int) (_b2 : -9223372036854775808 ≤ n2 ∧ n2 ≤ 9223372036854775807)
    (rv : Value) (ls : List (List UInt8)) (hR : BRows w rv ls) (hRl : ls.length ≤ maxLen) (hRe : ∀ l ∈ ls, l.length ≤ maxLen) :
    Calls Try.prog 3 #[v, .agg #[.int .i64 n0, .int .i64 n1, .int .i64 n2], rv] w fun e w' => e = .returned (.bool true) ∧ Below w.heap.size w w' := by
  have HD := Lib.hid hD
  have HR := Lib.hid hR
  have HE := Lib.hid hRe
  obtain ⟨a, cap, e, -, -, -⟩ := id hD
  rw [bvs_len] at e
  subst e
  obtain ⟨ra, rn, rc, rfl⟩ : ∃ a n cap, rv = .slice a n cap := by obtain ⟨vs, ⟨a, cap, e, _⟩, _⟩ := hR; exact ⟨_, _, _, e⟩
  obtain rfl := hR.len
  clear hD hR hRe
  unfold maxLen at hDl hRl
  have R0 := Row.new w 23 #[.int .i64 n0, .int .i64 n1, .int .i64 n2]
  have e0 : Ext w (w.alloc (.cells #[.int .i64 n0, .int .i64 n1, .int .i64 n2] 23)) := (Ext.refl w).alloc (Nat.le_refl _) _
  by_cases h5 : D.length ≤ 5000 ∧ ls.length ≤ 300
  · obtain ⟨h5, h6⟩ := h5
    go_enter Try.func3, Try.ntmps3
    go_wp2_with fail
    refine (strawake_any _).mono ?_; rintro e w1 ⟨rfl, hx1⟩
    have R1 := Lib.hid (R0.ext hx1)
    have x1 := e0.trans hx1
    have HR1 := Lib.hid (HR.out.ext x1)
    clear R0 hx1
    go_wp2_with fail
    go_loop [7] (fun v6 => ∃ i : Nat, i ≤ ls.length ∧ v6 = .int .i64 i) (fun v6 => (ls.length - intOf v6).toNat)
    case atStart => exact ⟨0, by omega, rfl⟩
    case round =>
      obtain ⟨i, hi, rfl⟩ := hrel
      by_cases hlt : i < ls.length
      · obtain ⟨rb, ro, ra', rc', rfl, c1, hb⟩ := HR1.out.at (List.getElem?_eq_getElem hlt)
        have hrl := HE.out ls[i] (List.getElem_mem hlt)
        unfold maxLen at hrl
        clear hb
        by_cases h7 : ls[i].length ≤ 5000
        · go_wp2_with fail
          go_round
          case rel => exact ⟨i + 1, by omega, by go_num⟩
          case measure => simp [intOf]; omega
        · have h8 : 5000 < ls[i].length := by omega
          go_wp2_with fail
          go_ret
          exact ⟨rfl, x1⟩
      · obtain rfl : i = ls.length := by omega
        clear hlt
        have p0 := R1.out.cell (i := 0) rfl
        have p1 := R1.out.cell (i := 1) rfl
        have p2 := R1.out.cell (i := 2) rfl
        go_wp2_with fail
        refine (split_tot _ D n0 n1 _ (HD.out.ext x1)).mono ?_; rintro e w2 ⟨va, rfl, hA, hx2⟩
        have x2 := x1.trans hx2
        have R2 := Lib.hid (R1.out.ext hx2)
        clear p0 p1 p2 R1 HR1
        have HA2 := Lib.hid hA
        have p0 := R2.out.cell (i := 0) rfl
        have p1 := R2.out.cell (i := 1) rfl
        clear hA hx2
        go_wp2_with fail
        refine (rsplit_tot _ D n0 n1 _ (HD.out.ext x2)).mono ?_; rintro e w3 ⟨vb, rfl, hB, hx3⟩
        have x3 := x2.trans hx3
        have R3 := Lib.hid (R2.out.ext hx3)
        have HA3 := Lib.hid (HA2.out.ext hx3)
        clear p0 p1 R2 HA2
        have HB3 := Lib.hid hB
        have p2 := R3.out.cell (i := 2) rfl
        have p1 := R3.out.cell (i := 1) rfl
        clear hB hx3
        go_wp2_with fail
        refine (join_tot _ ls n2 n1 HE.out _ (HR.out.ext x3)).mono ?_; rintro e w4 ⟨vc, rfl, hC, hx4⟩
        have x4 := x3.trans hx4
        have R4 := Lib.hid (R3.out.ext hx4)
        have HA4 := Lib.hid (HA3.out.ext hx4)
        have HB4 := Lib.hid (HB3.out.ext hx4)
        clear p2 p1 R3 HA3 HB3
        have HC4 := Lib.hid hC
        have p2 := R4.out.cell (i := 2) rfl
        have p1 := R4.out.cell (i := 1) rfl
        clear hC hx4
        go_wp2_with fail
        refine (rjoin_tot _ ls n2 n1 HE.out _ (HR.out.ext x4)).mono ?_; rintro e w5 ⟨vd, rfl, hD, hx5⟩
        have x5 := x4.trans hx5
        have R5 := Lib.hid (R4.out.ext hx5)
        have HA5 := Lib.hid (HA4.out.ext hx5)
        have HB5 := Lib.hid (HB4.out.ext hx5)
        have HC5 := Lib.hid (HC4.out.ext hx5)
        clear p2 p1 R4 HA4 HB4 HC4
        have HD5 := Lib.hid hD
        clear hD hx5
        go_wp2_with fail
        have y1 := fun n => str_conv HC5.out (w5.drewN n) (Ext.of_drawn w5 n)
        have y2 := fun n => str_conv HD5.out (w5.drewN n) (Ext.of_drawn w5 n)
        have p0 := R5.out.cell (i := 0) rfl
        have p1 := R5.out.cell (i := 1) rfl
        have p2 := R5.out.cell (i := 2) rfl
        go_quiet (first | (go_at_call 19; exact Calls.quiet_of (same_yes _ _ _ (cutRows_len D n0 n1) _ (HA5.out.ext (Ext.of_drawn _ _)) (HB5.out.ext (Ext.of_drawn _ _)))) | (go_at_call 20; exact Calls.quiet_of (length_tot n2 n0 n1 _)) | (go_at_call 21; exact Calls.quiet_of_same ((rlength_tot n2 n0 n1 _).mono fun e w' h => ⟨h.1, h.2.symm⟩)))
        go_wp2_with fail
        go_ret
        exact ⟨rfl, x5.trans (Ext.of_drawn _ _)⟩
  · by_cases h6 : D.length ≤ 5000
    · have h7 : 300 < ls.length := by omega
      go_enter Try.func3, Try.ntmps3
      go_wp2_with fail
      refine (strawake_any _).mono ?_; rintro e w1 ⟨rfl, hx1⟩
      go_wp2_with fail
      go_ret
      exact ⟨rfl, e0.trans hx1⟩
    · have h7 : 5000 < D.length := by omega
      go_enter Try.func3, Try.ntmps3
      go_wp2_with fail
      refine (strawake_any _).mono ?_; rintro e w1 ⟨rfl, hx1⟩
      go_wp2_with fail
      go_ret
      exact ⟨rfl, e0.trans hx1⟩
end Go.Proofs.Ytflockpdojjgeaa
