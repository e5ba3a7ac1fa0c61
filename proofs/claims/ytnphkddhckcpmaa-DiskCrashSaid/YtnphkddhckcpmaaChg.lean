/-
  'w' is w but for the blocks of S and those that are new'; how rows and slices are carried over. No statement about the program.
-/
import Derived.Test.YtnphkddhckcpmaaApp
namespace Go.Proofs.Ytnphkddhckcpmaa
open Go.RowKit

theorem setCell_size (w : World) (p : Addr) (u : Value) : (w.setCell p u).heap.size = w.heap.size := by unfold World.setCell; simp
structure Chg (S : Nat → Prop) (w w' : World) : Prop where
  os : w'.os = w.os
  tape : w'.tape = w.tape
  output : w'.output = w.output
  size : w.heap.size ≤ w'.heap.size
  block : ∀ k, k < w.heap.size → ¬ S k → w'.heap[k]? = w.heap[k]?
/-- The blocks of S, and those that are new since w, in w'. -/
def Grow (S : Nat → Prop) (w w' : World) : Nat → Prop := fun k => S k ∨ (w.heap.size ≤ k ∧ k < w'.heap.size)
section
variable {S T : Nat → Prop} {a w w' w'' : World}
theorem Chg.refl (S : Nat → Prop) (w : World) : Chg S w w := ⟨rfl, rfl, rfl, Nat.le_refl _, fun _ _ _ => rfl⟩
theorem Chg.trans (h : Chg S w w') (k : Chg S w' w'') : Chg S w w'' :=
  ⟨k.os.trans h.os, k.tape.trans h.tape, k.output.trans h.output, Nat.le_trans h.size k.size, fun b hb hn => (k.block b (Nat.lt_of_lt_of_le hb h.size) hn).trans (h.block b hb hn)⟩
theorem Chg.mono (h : Chg S w w') (hS : ∀ b, b < w.heap.size → S b → T b) : Chg T w w' := ⟨h.os, h.tape, h.output, h.size, fun b hb hn => h.block b hb fun hs => hn (hS b hb hs)⟩
theorem Chg.of_ext (h : Ext w w') (S : Nat → Prop) : Chg S w w' := ⟨h.os, h.tape, h.output, h.size, fun b hb _ => h.block b hb⟩
/-- What has been changed is new since w. -/
theorem Chg.ext (h : Chg S w w') (hS : ∀ b, b < w.heap.size → ¬ S b) : Ext w w' := ⟨h.os, h.tape, h.output, h.size, fun b hb => h.block b hb (hS b hb)⟩
theorem Chg.below (h : Chg S w w') {B : Nat} (hB : B ≤ w.heap.size) (hS : ∀ b, b < B → ¬ S b) : Below B w w' := ⟨h.os, h.tape, h.output, h.size, fun b hb => h.block b (Nat.lt_of_lt_of_le hb hB) (hS b hb)⟩
/-- Two steps, the second on what the first one made or S. -/
theorem Chg.then (h : Chg S w w') (k : Chg (Grow S w w') w' w'') : Chg S w w'' :=
  ⟨k.os.trans h.os, k.tape.trans h.tape, k.output.trans h.output, Nat.le_trans h.size k.size, fun b hb hn => (k.block b (Nat.lt_of_lt_of_le hb h.size) (fun hg => hg.elim hn fun x => by omega)).trans (h.block b hb hn)⟩
theorem Chg.after (h : Ext w w') (k : Chg S w' w'') : Chg S w w'' := (Chg.of_ext h S).trans k
theorem Chg.drew (h : Chg S a w) : Chg S a w.drew := ⟨h.os, h.tape, h.output, h.size, h.block⟩
theorem Chg.drewN (h : Chg S a w) (n : Nat) : Chg S a (w.drewN n) := ⟨h.os, h.tape, h.output, h.size, h.block⟩
theorem Chg.alloc (h : Chg S a w) (o : Obj) : Chg S a (w.alloc o) := h.trans (Chg.of_ext ((Ext.refl w).alloc (Nat.le_refl _) o) S)
theorem Chg.set (h : Chg S a w) {p : Addr} (hp : S p.block ∨ a.heap.size ≤ p.block) (u : Value) : Chg S a (w.setCell p u) :=
  ⟨h.os, h.tape, h.output, by have := h.size; unfold World.setCell; simpa using this, fun b hb hn => (Below.heap_setCell w p u b (fun e => by subst e; rcases hp with hp | hp; exact hn hp; omega)).trans (h.block b hb hn)⟩
theorem Chg.at (h : Chg S a w) (b i : Nat) (hp : S b ∨ a.heap.size ≤ b) (u : Value) : Chg S a (w.setCell ⟨b, i, none⟩ u) := h.set (p := ⟨b, i, none⟩) hp u
theorem Chg.grown (h : Chg S a w) {r : Option Nat} (hg : w.grownBy w' r) (hr : ∀ k, r = some k → S k ∨ a.heap.size ≤ k) : Chg S a w' :=
  ⟨hg.os.trans h.os, hg.tape.trans h.tape, hg.output.trans h.output, Nat.le_trans h.size hg.size, fun b hb hn => (hg.block b (Nat.lt_of_lt_of_le hb h.size) (fun e => by rcases hr b e.symm with x | x; exact hn x; omega)).trans (h.block b hb hn)⟩
theorem Chg.cell (h : Chg S w w') {p : Addr} {v : Value} (hc : w.cell? p = some v) (hn : ¬ S p.block) : w'.cell? p = some v :=
  (World.cell?_of_block (h.block _ (World.block_lt_of_cell? w p hc) hn)).trans hc
theorem Chg.unfrozen (h : Chg S w w') {p : Addr} {v : Value} (hc : w.cell? p = some v) (hf : w.frozen? p = false) (hn : ¬ S p.block) : w'.frozen? p = false :=
  (World.frozen?_of_block (h.block _ (World.block_lt_of_cell? w p hc) hn)).trans hf
theorem Row.chg {b : Nat} {e : TypeId} {cs : Array Value} (h : Row w b e cs) (k : Chg S w w') (hn : ¬ S b) : Row w' b e cs := (k.block b h.lt hn).trans h
theorem Own.chg {B : Nat} {e : TypeId} {v : Value} {cs : List Value} (h : Own w B e v cs) (k : Chg S w w') (hn : ∀ b, v.ownBlock = some b → ¬ S b) : Own w' B e v cs := by
  rcases h.forms with ⟨rfl, rfl⟩ | ⟨g, cap, cur, rfl, h2, hr, hl, hs, ht, h5⟩
  · exact World.ownsRow_nil _ _ _ _
  · exact Own.mk h2 (hr.chg k (hn g rfl)) hl hs ht h5
theorem Own.lt {B : Nat} {e : TypeId} {v : Value} {cs : List Value} (h : Own w B e v cs) {b : Nat} (hb : v.ownBlock = some b) : b < w.heap.size := (World.ownsRow.lt h b hb).2
theorem Own.row {B : Nat} {e : TypeId} {v : Value} {cs : List Value} (h : Own w B e v cs) {b : Nat} (hb : v.ownBlock = some b) : ∃ cur, Row w b e cur := by
  rcases h.forms with ⟨rfl, -⟩ | ⟨g, cap, cur, rfl, h2, hr, -⟩
  · cases hb
  · cases hb; exact ⟨cur, hr⟩
/-- Two rows of two element types lie in two blocks; a row is no map. -/
theorem Row.ne {b c : Nat} {e f : TypeId} {cs ds : Array Value} (h : Row w b e cs) (k : Row w c f ds) (hef : e ≠ f) : b ≠ c := fun x => by
  subst x
  unfold Row at h k
  rw [h] at k
  simp only [Option.some.injEq, Obj.cells.injEq] at k
  exact hef k.2.1
end
end Go.Proofs.Ytnphkddhckcpmaa
