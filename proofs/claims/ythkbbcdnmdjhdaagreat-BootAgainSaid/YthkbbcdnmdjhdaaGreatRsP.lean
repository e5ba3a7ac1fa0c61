/-
  The reference's code: New, even, Encode.
-/
import Derived.Test.YthkbbcdnmdjhdaaGreatA7
import Derived.Test.YthkbbcdnmdjhdaaGreatA6
/-! XRsP: The reference's code: New, even, Encode. -/
namespace Go.Proofs.YthkbbcdnmdjhdaaGreat
open Go.RowKit Gf
set_option maxRecDepth 100000
set_option maxHeartbeats 4000000
attribute [local go_sem] min_int2 max_int2

/-- The reference's code in memory. -/
def RCodeAt (w : World) (cb k m : Nat) (X : Mat.M) : Prop :=
  ∃ xa xc, Row w cb 226 #[.int .i64 k, .int .i64 m, .slice xa (k + m : Nat) xc] ∧ BRows w (.slice xa (k + m : Nat) xc) X
theorem RCodeAt.ext {w w' : World} {cb k m : Nat} {X : Mat.M} (h : RCodeAt w cb k m X) (hx : Ext w w') : RCodeAt w' cb k m X := by
  obtain ⟨xa, xc, h1, h2⟩ := h
  exact ⟨xa, xc, h1.ext hx, h2.ext hx⟩
theorem RCodeAt.cells {w : World} {cb k m : Nat} {X : Mat.M} (h : RCodeAt w cb k m X) : ∃ xa xc, w.cell? ⟨cb, 0, none⟩ = some (.int .i64 k) ∧ w.cell? ⟨cb, 1, none⟩ = some (.int .i64 m) ∧ w.cell? ⟨cb, 2, none⟩ = some (.slice xa (k + m : Nat) xc) ∧ BRows w (.slice xa (k + m : Nat) xc) X := by
  obtain ⟨xa, xc, h1, h2⟩ := h
  exact ⟨xa, xc, h1.cell rfl, h1.cell rfl, h1.cell rfl, h2⟩
theorem rrsnew_any (k m : Nat) (h1 : 1 ≤ k) (h2 : 1 ≤ m) (h3 : k + m ≤ 255) (w : World) :
    Calls Tryz.prog 98 #[.int .i64 k, .int .i64 m] w fun e w' => ∃ cb X xa xc, Mat.sys k m = some X ∧ e = .returned (.tuple #[.pointer (some ⟨cb, 0, none⟩), .int .i64 0]) ∧
      Row w' cb 226 #[.int .i64 k, .int .i64 m, .slice xa (k + m : Nat) xc] ∧ RA w' w.heap.size w'.heap.size (.slice xa (k + m : Nat) xc) X ∧ w.heap.size ≤ cb ∧ Ext w w' := by
  obtain ⟨q, hq⟩ : ∃ q, k + m = q := ⟨_, rfl⟩
  rw [hq]
  have HQ := Lib.hid hq
  have H3 := Lib.hid h3
  clear hq h3
  go_enter Tryz.func98, Tryz.ntmps98
  go_wp2_with fail
  refine (rsys_any k m h1 h2 H3.out _).mono ?_; rintro e w1 ⟨X, u, hX, rfl, hM, x1⟩
  obtain ⟨xa, xc, rfl⟩ := hM.form
  have XS := (Mat.sys_sh hX).1
  rw [HQ.out] at XS
  rw [XS] at hM ⊢
  have x2 : Ext w1 (w1.alloc (.cells #[.int .i64 k, .int .i64 m, .slice xa q xc] 226)) := (Ext.refl w1).alloc (Nat.le_refl _) _
  have HR := Lib.hid (And.intro (Row.new w1 226 #[.int .i64 k, .int .i64 m, .slice xa q xc]) (And.intro ((hM.ext x2).mono (Nat.le_refl _) x2.size) (And.intro x1.size (Ext.trans x1 x2))))
  have HX := Lib.hid hX
  clear hX hM x1 x2 XS
  go_wp2_with fail
  go_ret2
  exact ⟨_, X, xa, xc, HX.out, rfl, HR.out.1, HR.out.2.1, HR.out.2.2.1, HR.out.2.2.2⟩
theorem rrsnew_no (k m : Int) (h : ¬ (1 ≤ k ∧ 1 ≤ m ∧ k + m ≤ 255)) (w : World) :
    Calls Tryz.prog 98 #[.int .i64 k, .int .i64 m] w fun e w' => e = .returned (.tuple #[.pointer none, .int .i64 1]) ∧ w = w' := by
  have H := Lib.hid h
  clear h
  go_enter Tryz.func98, Tryz.ntmps98
  go_wp2_with fail
  refine (rsys_no k m H.out _).mono ?_; rintro e w1 ⟨rfl, rfl⟩
  go_wp2_with fail
  go_ret2
  exact ⟨rfl, rfl⟩
end Go.Proofs.YthkbbcdnmdjhdaaGreat
