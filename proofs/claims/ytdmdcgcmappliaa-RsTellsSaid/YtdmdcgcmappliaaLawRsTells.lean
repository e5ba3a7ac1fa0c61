/- one row of those that fit changed, anywhere: they fit no more; whichever row was changed, it comes out right from as many others -/
import Derived.Test.YtdmdcgcmappliaaRows
import Derived.Test.YtdmdcgcmappliaaRsM
import Derived.Test.YtdmdcgcmappliaaInW
import Derived.WalkKit
import Derived.ProofKit
import Derived.OpenShut
import Derived.ShutString
import Derived.ChangeOld
import Derived.Below
namespace Go.Proofs.Ytdmdcgcmappliaa.rsTells
open Go.ChangeShapes Go.WideShapes Go.ChangeAt Go.RowKit
set_option linter.unusedVariables false

theorem own : ownKnob Try.prog.godebug = none := by kernel_rfl
theorem laidOut : laidOutB Try.prog = true := by kernel_rfl

set_option maxRecDepth 100000 in
theorem lifted (os : Os) (started : os.Started) (H : Type) (enc : TypeId × Value → H) :
    ReturnsInHanded {} Try.checked os 15 .any (Rows.rsTellsSpec.pre6 enc Try.prog Try.f15 Rows.rsTellsRow.domain false) (Rows.rsTellsSpec.post enc Try.prog Try.f15 false true false false) := by
  refine Go.Proofs.Ytdmdcgcmappliaa.returns_sized (C := Try.checked) own started (by kernel_rfl) Try.func15
    (ChangeSpec.witness6 (enc := enc) (C := Try.checked) false ⟨#[], #[.slice none 0 0, .int .u8 0, .agg #[.int .u16 0, .int .u16 0]], []⟩ 8 (by kernel_rfl) (by kernel_rfl) (by kernel_rfl) (by kernel_rfl)) ?_
  intro W base args ds gs before hval0 hW hcnd hwt _
  have hval : ∀ (j : Nat) t v, Try.f15.params[j]? = some t → args[j]? = some v → Value.okWide Try.prog W .any base t v := hval0
  have hW' := hW
  obtain ⟨p, q, hA0, hV, rfl, hfz, hnd⟩ := hW
  have hA : DataW.TrodAll enc Try.prog W 0 (fun _ => true) true Try.f15.params.toList args.toList ds p := hA0
  rw [Try.params15] at hA hval hwt
  obtain ⟨v0, vs0, d0, ds0, p0, q0, hargs, rfl, rfl, h0, r0⟩ := trodAll_cons hA
  obtain ⟨v1, vs1, d1, ds1, p1, q1, rfl, rfl, rfl, h1, r1⟩ := trodAll_cons r0
  obtain ⟨v2, vs2, d2, ds2, p2, q2, rfl, rfl, rfl, h2, r2⟩ := trodAll_cons r1
  obtain ⟨rfl, rfl, rfl⟩ := trodAll_nil r2
  obtain rfl : args = #[v0, v1, v2] := by cases args; simp_all
  obtain ⟨rfl, rfl⟩ := trodVars_none hV
  have k0 := h0
  have lt0 : ∀ x ∈ p0, x.block < W.heap.size := by obtain ⟨m, hm⟩ := k0; exact DataW.trod_lt m _ _ _ hm
  obtain ⟨sa0, sl0, sc0, rfl⟩ := okWide_slice Try.underlying22 (hval 0 22 v0 rfl rfl)
  obtain ⟨f0, hf0⟩ := h0
  obtain ⟨b0, l0, e0, w0, wl0, wz0⟩ := in_rows Try.underlying22 Try.underlying34 Try.underlying5 (by kernel_rfl) (by kernel_rfl) hf0
  simp only [Value.cells, List.cons.injEq, and_true] at e0
  subst e0
  have hw0 : ∀ n ∈ d0.weights Try.prog 22, n ≤ reachBytes := fun n hn => of_decide_eq_true (List.all_eq_true.1 hwt n (by simp only [List.cons_append, List.nil_append, DataW.weightsEach, List.mem_append]; exact .inl hn))
  have wb0 := rows_bound Try.underlying22 Try.underlying34 (by kernel_rfl) (by kernel_rfl) hf0 hw0 w0
  have wm0 := rows_bound_len Try.underlying22 (of_decide_eq_true (by kernel_rfl)) hf0 hw0 w0
  have k1 := h1
  have lt1 : ∀ x ∈ p1, x.block < W.heap.size := by obtain ⟨m, hm⟩ := k1; exact DataW.trod_lt m _ _ _ hm
  obtain ⟨a1, rfl, rfl, rfl, w1⟩ := open_int Try.underlying5 (hval 1 5 v1 rfl rfl) h1
  have k2 := h2
  have lt2 : ∀ x ∈ p2, x.block < W.heap.size := by obtain ⟨m, hm⟩ := k2; exact DataW.trod_lt m _ _ _ hm
  obtain ⟨l2, hl2, rfl, hw2⟩ := in_array Try.underlying74 Try.underlying73 (by kernel_rfl) (by kernel_rfl) (hval 2 74 v2 rfl rfl) h2
  obtain ⟨z2_0, z2_1, rfl⟩ := list_two hl2
  clear hA0 hval0
  have hq2_0 := hw2 z2_0 (by simp)
  have hq2_1 := hw2 z2_1 (by simp)
  clear hw2
  obtain ⟨x1, rfl⟩ := u8_of_wf w1
  obtain ⟨x2_0, rfl, hx2_0⟩ := nat_of_wf16 hq2_0
  obtain ⟨x2_1, rfl, hx2_1⟩ := nat_of_wf16 hq2_1
  refine (Go.Proofs.Ytdmdcgcmappliaa.rstells_any W _ l0 w0 wm0 wb0 x1 x2_0 hx2_0 x2_1 hx2_1).mono fun e W' ⟨he, bel⟩ => ?_
  subst he
  exact ⟨_, rfl, _, _, _, [], _, [], hW', trodAll_mk1 (shut_bool Try.underlying4 _), (trodAll_cons_mk (Below.trod laidOut (by kernel_rfl) (of_decide_eq_true (by kernel_rfl)) k0 bel lt0) (trodAll_cons_mk (Below.trod laidOut (by kernel_rfl) (of_decide_eq_true (by kernel_rfl)) k1 bel lt1) (trodAll_cons_mk (Below.trod laidOut (by kernel_rfl) (of_decide_eq_true (by kernel_rfl)) k2 bel lt2) trodAll_mk0))), rfl, bel.frame _, fun h => by cases h⟩

theorem over : Rows.rsTellsRow.holds Try.pinned (OpenSpec.ofChange Rows.rsTellsSpec) :=
  OpenClaim.holds_of_wide 15 Try.f15 rfl rfl rfl rfl rfl rfl rfl ⟨rfl, rfl, rfl, rfl, rfl⟩ rfl rfl rfl rfl rfl (by kernel_rfl) Try.func15 (by kernel_rfl)
    (of_decide_eq_true (by kernel_rfl)) (by unfold Func.isWrapper; first | (rw [if_pos (by decide +kernel)]; kernel_rfl) | (rw [if_neg (by decide +kernel)]; exact ⟨rfl, rfl⟩))
    (fun os started H enc _ => lifted os started H enc)

theorem proved : Rows.RsTellsSaid := over
#print axioms proved
end Go.Proofs.Ytdmdcgcmappliaa.rsTells
