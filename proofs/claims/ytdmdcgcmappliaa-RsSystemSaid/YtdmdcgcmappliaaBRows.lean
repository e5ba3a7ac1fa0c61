/-
  Rows of bytes that the call owns, one block each; slices of slices. No statement about the program.
-/
import Derived.Test.YtdmdcgcmappliaaApp
namespace Go.Proofs.Ytdmdcgcmappliaa
open Go.RowKit

theorem bvs_drop (m : Nat) (l : List UInt8) : bvs (l.drop m) = (bvs l).drop m := List.map_drop
theorem bvs_take (m : Nat) (l : List UInt8) : bvs (l.take m) = (bvs l).take m := List.map_take
theorem addr_add_add (a : Addr) (i j : Nat) : (a.add i).add j = a.add (i + j) := by
  unfold Addr.add
  by_cases hi : i = 0 <;> by_cases hj : j = 0 <;> simp [hi, hj, Nat.add_assoc]
theorem Cells.take {w : World} {a : Option Addr} {n cap : Nat} {cs : List Value} (h : Cells w (.slice a n cap) cs) (m : Nat) (hm : m ≤ n) : Cells w (.slice a m cap) (cs.take m) := by
  obtain ⟨a', cap', e, hl, hn, hc⟩ := h
  simp only [Value.slice.injEq] at e
  obtain ⟨rfl, rfl, rfl⟩ := e
  have hlen : (cs.take m).length = m := by rw [List.length_take]; omega
  refine ⟨a, cap, by rw [hlen], by omega, hn, fun j u hu => hc j u ?_⟩
  rw [List.getElem?_take] at hu
  split at hu
  · exact hu
  · cases hu
theorem Cells.drop {w : World} {a : Option Addr} {n cap : Nat} {cs : List Value} (h : Cells w (.slice a n cap) cs) (m : Nat) (hm : m ≤ n) :
    Cells w (.slice (if cap = m then a else a.map (·.add m)) (n - m) (cap - m)) (cs.drop m) := by
  obtain ⟨a', cap', e, hl, hn, hc⟩ := h
  simp only [Value.slice.injEq] at e
  obtain ⟨rfl, rfl, rfl⟩ := e
  refine ⟨_, cap - m, by rw [List.length_drop], by rw [List.length_drop]; omega, ?_, fun j u hu => ?_⟩
  · by_cases hcm : cap = m
    · intro _; omega
    · rw [if_neg hcm]; intro h2; have := hn (by simpa using h2); omega
  · rw [List.getElem?_drop] at hu
    obtain ⟨ad, h1, h2⟩ := hc _ u hu
    have hlt : m + j < cs.length := (List.getElem?_eq_some_iff.1 hu).1
    rw [if_neg (by omega), h1]
    refine ⟨_, rfl, ?_⟩
    show w.cell? ((ad.add m).add j) = _
    rw [addr_add_add]; exact h2

theorem run_slice1 {P : Program} {w : World} (t e : TypeId) (z : Value) (bytes : Nat) (ht : P.underlying t = some (.slice e)) (hi : (P.info? e).map (fun i => (i.zero, i.size, i.bytes)) = some (some z, 1, bytes))
    (a : Option Addr) (n cap l m : Nat) (hlm : l ≤ m) (hm : m ≤ n) (hn : n ≤ cap) (lo hi' : Option Value)
    (hlo : (lo = none ∧ l = 0) ∨ lo = some (.int .i64 (l : Int))) (hhi : (hi' = none ∧ m = n) ∨ hi' = some (.int .i64 (m : Int))) :
    (Instr.sliceAt t (.slice a n cap) lo hi' none).run P w = .ok (.slice (if cap = l then a else a.map (·.add l)) (m - l) (cap - l)) w := by
  obtain ⟨i, hi, _, hs, _⟩ := info_parts hi
  have hb : (Instr.sliceBounds true n cap lo hi' none).run P w = .ok (l, m, cap) w := by
    have hmc : m ≤ cap := Nat.le_trans hm hn
    rcases hlo with ⟨rfl, rfl⟩ | rfl <;> rcases hhi with ⟨rfl, rfl⟩ | rfl
    · simp [Instr.sliceBounds]
    · simp [Instr.sliceBounds, Instr.sliceBound, asIntOf, hmc]
    · simp [Instr.sliceBounds, Instr.sliceBound, asIntOf, hlm]
    · simp [Instr.sliceBounds, Instr.sliceBound, asIntOf, hlm, hmc]
  simp [Instr.sliceAt, Instr.slice, run_underlying ht, hb, sizeOf, typeInfo, hi, hs]
section
variable {P : Program} {w : World} {ops : Array Oper} {rest : List Oper} {o : Oper} {a : Act} {Q : Exit → Act → World → Prop} {K : Act → World → Prop}
theorem wp_slice1 (t e : TypeId) (z : Value) (bytes : Nat) (x : Operand) (lo hi : Option Operand) (ho : o.op = .slice t x lo hi none) (ht : P.underlying t = some (.slice e)) (hinfo : (P.info? e).map (fun i => (i.zero, i.size, i.bytes)) = some (some z, 1, bytes))
    {ad : Option Addr} {n cap : Nat} (hx : a.eval x = .slice ad n cap) {cs : List Value} {w0 : World} (hc : Cells w0 (.slice ad n cap) cs) (l m : Nat) (hlm : l ≤ m) (hm : m ≤ n)
    (hlo : (lo.map a.eval = none ∧ l = 0) ∨ lo.map a.eval = some (.int .i64 (l : Int))) (hhi : (hi.map a.eval = none ∧ m = n) ∨ hi.map a.eval = some (.int .i64 (m : Int)))
    (hK : ∀ ad' cap', Cells w0 (.slice ad' (m - l) cap') ((cs.take m).drop l) → K (a.put o.dst (.slice ad' (m - l) cap')) w) : Oper.wp P o a w K Q := by
  have hn : n ≤ cap := by
    obtain ⟨a', cap', e, hl, _, _⟩ := hc
    simp only [Value.slice.injEq] at e
    obtain ⟨_, rfl, rfl⟩ := e
    exact hl
  have hrun := run_slice1 (P := P) (w := w) t e z bytes ht hinfo ad n cap l m hlm hm hn (lo.map a.eval) (hi.map a.eval) hlo hhi
  unfold Oper.wp execOp
  simp only [ho, Sem.run_bind, Sem.run_pure, Result.andThen_ok, hx, hrun, Option.map_none]
  exact hK _ _ ((hc.take m hm).drop l hlm)
end
end Go.Proofs.Ytdmdcgcmappliaa
