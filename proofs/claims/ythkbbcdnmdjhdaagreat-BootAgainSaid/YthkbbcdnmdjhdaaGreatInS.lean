/-
  A shape among the inputs.
-/
import Derived.Test.YthkbbcdnmdjhdaaGreatA1
/-! XInS: A shape among the inputs. -/
namespace Go.Proofs.YthkbbcdnmdjhdaaGreat
open Go.RowKit Go.ChangeShapes Go.WideShapes Go.Joins
set_option maxRecDepth 100000
set_option maxHeartbeats 4000000

theorem in_shape {H : Type} {enc : TypeId × Value → H} {w : World} {r : Reach} {b0 base : Nat} {spare : Nat → Bool} {held : Bool} {v : Value} {d : DataW H} {p : List MemPlace}
    (hv : Value.okWide Tryz.prog w r b0 23 v) (h : DataW.Trod enc Tryz.prog w base spare held 23 v d p) :
    ∃ x y z : Int, v = .agg #[.int .i64 x, .int .i64 y, .int .i64 z] ∧ (-9223372036854775808 ≤ x ∧ x ≤ 9223372036854775807) ∧ (-9223372036854775808 ≤ y ∧ y ≤ 9223372036854775807) ∧ (-9223372036854775808 ≤ z ∧ z ≤ 9223372036854775807) := by
  have hC : Program.cellsOf Tryz.prog 23 = 3 := by kernel_rfl
  obtain ⟨c0, c1, c2, y0, y1, y2, m, rfl, -, -, h0, h1, h2⟩ := open_agg3 Tryz.underlying23 (by kernel_rfl) hC hv h
  obtain ⟨a, e0, -, wa⟩ := DataW.trod_int Tryz.underlying3 h0
  obtain ⟨b, e1, -, wb⟩ := DataW.trod_int Tryz.underlying3 h1
  obtain ⟨c, e2, -, wc⟩ := DataW.trod_int Tryz.underlying3 h2
  simp only [List.cons.injEq, and_true] at e0 e1 e2
  subst e0 e1 e2
  exact ⟨a, b, c, rfl, int_of_wf wa, int_of_wf wb, int_of_wf wc⟩
end Go.Proofs.YthkbbcdnmdjhdaaGreat
