/-
  The statements GfRows and GfLinear by their walks.
-/
import Derived.Test.YtflockpdojjgeaaGfL
import Derived.Test.YtflockpdojjgeaaStr
import Derived.Deep.QuietTactic
import Derived.BigQuiet
namespace Go.Proofs.Ytflockpdojjgeaa
open Go.RowKit Gf
set_option maxRecDepth 100000
set_option maxHeartbeats 2000000
attribute [local go_sem] min_int2 max_int2

theorem mad_twice : ∀ (d s : List UInt8) (c : UInt8), mad (mad d s c) s c = d
  | [], _, _ => rfl
  | _ :: _, [], _ => rfl
  | x :: d, y :: s, c => by
    simp only [mad, mad_twice d s c, List.cons.injEq, and_true]
    rw [UInt8.xor_assoc, UInt8.xor_self, UInt8.xor_zero]
theorem conv_later {w : World} {v : Value} {l : List UInt8} (h : Bytes w v l) : ∀ W, Ext w W → (convert 22 9 v).run Try.prog W = .ok (.string (bstr l)) W :=
  fun _ hx => run_tostr Try.underlying22 Try.underlying5 Try.underlying9 (h.ext hx)

theorem gfRows_walk (w : World) (dv : Value) (d : List UInt8) (hd : Bytes w dv d) (hdl : d.length ≤ maxLen) (sv : Value) (s : List UInt8) (hs : Bytes w sv s) (hsl : s.length ≤ maxLen) (c : UInt8) :
    Calls Try.prog 9 #[dv, sv, bv c] w fun e w' => e = .returned (.bool true) ∧ Below w.heap.size w w' := by
  have HD := Lib.hid hd
  have HS := Lib.hid hs
  obtain ⟨da, dc, rfl, -, -, -⟩ := hd
  obtain ⟨sa, sc, rfl, -, -, -⟩ := hs
  rw [bvs_len] at HD ⊢
  rw [bvs_len] at HS ⊢
  unfold maxLen at hdl hsl
  by_cases h1 : d.length ≤ 2000
  · by_cases h2 : s.length ≤ 2000
    · go_enter Try.func9, Try.ntmps9
      go_wp2_with fail
      refine (gfawake_any _).mono ?_; rintro e w1 ⟨rfl, hx1⟩
      go_wp2_with fail
      refine (new_any _).mono ?_; rintro e w2 ⟨t, ht, rfl, hT, hx⟩
      have hx2 := hx1.trans hx
      have hh := Lib.hid hT
      have HD2 := Lib.hid (HD.out.ext hx2)
      have HS2 := Lib.hid (HS.out.ext hx2)
      clear hT
      have k1 := fun n => run_tostr (P := Try.prog) (w := w2.drewN n) Try.underlying22 Try.underlying5 Try.underlying9 (HD2.out.ext (Ext.of_drawn w2 n))
      have k2 := fun n => run_tostr (P := Try.prog) (w := w2.drewN n) Try.underlying22 Try.underlying5 Try.underlying9 (HS2.out.ext (Ext.of_drawn w2 n))
      go_wp2_with fail
      go_quiet (fail)
      generalize hw3 : w2.drewN nq = w3
      have hx3 : Ext w w3 := by rw [← hw3]; exact hx2.trans (Ext.of_drawn _ _)
      have hT3 := Lib.hid (hh.out.ext (by rw [← hw3]; exact Ext.of_drawn _ _ : Ext w2 w3))
      clear hw3 k1 k2 hh HD2 HS2 hx hx1 hx2
      have HD3 := Lib.hid (HD.out.ext hx3)
      have HS3 := Lib.hid (HS.out.ext hx3)
      go_wp2_with fail
      refine (muladd_any t d s c _ _ _ hT3.out (by omega) (by omega) HD3.out HS3.out).mono ?_; rintro e w4 ⟨v1, rfl, hO1, hx4⟩
      have B1 := Lib.hid hO1.cells
      clear hO1
      go_wp2_with fail
      refine (muladd_any t (mad d s c) s c _ _ _ (hT3.out.ext hx4) (by rw [mad_length]; omega) (by omega) B1.out (HS3.out.ext hx4)).mono ?_; rintro e w5 ⟨v2, rfl, hO2, hx5⟩
      rw [mad_twice] at hO2
      have y1 := conv_later (B1.out.ext hx5)
      have y2 := conv_later hO2.cells
      have y3 := conv_later (HD3.out.ext (hx4.trans hx5))
      have y4 := conv_later (HS3.out.ext (hx4.trans hx5))
      have hx35 := hx4.trans hx5
      clear hO2
      go_wp2_with fail
      have z0 : Ext w5 w5.drew := (Ext.refl _).drew
      go_region_with (first | (go_at_call 29; refine (rmuladd_any d s c _ _ _ (by omega) (by omega) (by exact HD3.out.ext (hx35.trans z0)) (by exact HS3.out.ext (hx35.trans z0))).mono ?_; rintro e w6 ⟨v3, rfl, hO3, hx6⟩; have y5 := conv_later hO3.cells; have z1 := z0.trans hx6; have z2 := Ext.refl w6))
      all_goals
        go_wp2
        go_ret
        exact ⟨rfl, hx3.trans (hx35.trans z1)⟩
    · go_enter Try.func9, Try.ntmps9
      go_wp2_with fail
      refine (gfawake_any _).mono ?_; rintro e w1 ⟨rfl, hx1⟩
      go_wp2
      go_ret
      exact ⟨rfl, hx1⟩
  · go_enter Try.func9, Try.ntmps9
    go_wp2_with fail
    refine (gfawake_any _).mono ?_; rintro e w1 ⟨rfl, hx1⟩
    go_wp2
    go_ret
    exact ⟨rfl, hx1⟩
end Go.Proofs.Ytflockpdojjgeaa
