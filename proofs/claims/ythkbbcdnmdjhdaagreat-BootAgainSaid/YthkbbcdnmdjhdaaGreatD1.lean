/-
  'w' is w but for the blocks of S and those that are new'; how rows and slices are carried over. No statement about the program.
  Things that lie in blocks of their own, side by side; what lies in new blocks since a base world; what a call does to one leaves the others. No statement about the program.
  append onto rows whose elements have k cells; the block that comes out is the old one or a new one. No statement about the program.
  A slice of structs that owns its row, as a thing; one appended. No statement about the program.
  Disks as lists of files by rising paths: what is read, put, taken away; and what a disk answers. No program in sight.
  A disk in memory: its block, its map, its files. No walk.
  The fuse's functions; New; begin.
  New; begin.
  open: an operation on a file that is there.
  A range over a disk's files; Used; bytes.Clone.
  bytes.Clone; Write.
  Write.
  Sync, Read, Rename, Delete.
  New; Crash.
-/
import Derived.Test.YthkbbcdnmdjhdaaGreatA1
import Derived.Deep.AppendSrc
import Derived.WideAt
import Derived.WideShapes
import Derived.Maps.Views
import Derived.MapViews
import Derived.Maps.OwnSet
import Derived.Maps.Range
import Derived.StringKeys
import Derived.Deep.RegionHeld3
/-! XChg: 'w' is w but for the blocks of S and those that are new'; how rows and slices are carried over. No statement about the program. -/
namespace Go.Proofs.YthkbbcdnmdjhdaaGreat
open Go.RowKit

structure Chg (S : Nat → Prop) (w w' : World) : Prop where
  os : w'.os = w.os
  tape : w'.tape = w.tape
  output : w'.output = w.output
  size : w.heap.size ≤ w'.heap.size
  block : ∀ k, k < w.heap.size → ¬ S k → w'.heap[k]? = w.heap[k]?
/-- The blocks of S, and those that are new since w, in w'. -/
def Grow (S : Nat → Prop) (w w' : World) : Nat → Prop := fun k => S k ∨ (w.heap.size ≤ k ∧ k < w'.heap.size)
section
variable {S T : Nat → Prop} {a w w' w'' : World}
theorem Chg.refl (S : Nat → Prop) (w : World) : Chg S w w := ⟨rfl, rfl, rfl, Nat.le_refl _, fun _ _ _ => rfl⟩
theorem Chg.trans (h : Chg S w w') (k : Chg S w' w'') : Chg S w w'' :=
  ⟨k.os.trans h.os, k.tape.trans h.tape, k.output.trans h.output, Nat.le_trans h.size k.size, fun b hb hn => (k.block b (Nat.lt_of_lt_of_le hb h.size) hn).trans (h.block b hb hn)⟩
theorem Chg.mono (h : Chg S w w') (hS : ∀ b, b < w.heap.size → S b → T b) : Chg T w w' := ⟨h.os, h.tape, h.output, h.size, fun b hb hn => h.block b hb fun hs => hn (hS b hb hs)⟩
theorem Chg.of_ext (h : Ext w w') (S : Nat → Prop) : Chg S w w' := ⟨h.os, h.tape, h.output, h.size, fun b hb _ => h.block b hb⟩
/-- What has been changed is new since w. -/
theorem Chg.ext (h : Chg S w w') (hS : ∀ b, b < w.heap.size → ¬ S b) : Ext w w' := ⟨h.os, h.tape, h.output, h.size, fun b hb => h.block b hb (hS b hb)⟩
theorem Chg.below (h : Chg S w w') {B : Nat} (hB : B ≤ w.heap.size) (hS : ∀ b, b < B → ¬ S b) : Below B w w' := ⟨h.os, h.tape, h.output, h.size, fun b hb => h.block b (Nat.lt_of_lt_of_le hb hB) (hS b hb)⟩
/-- Two steps, the second on what the first one made or S. -/
theorem Chg.then (h : Chg S w w') (k : Chg (Grow S w w') w' w'') : Chg S w w'' :=
  ⟨k.os.trans h.os, k.tape.trans h.tape, k.output.trans h.output, Nat.le_trans h.size k.size, fun b hb hn => (k.block b (Nat.lt_of_lt_of_le hb h.size) (fun hg => hg.elim hn fun x => by omega)).trans (h.block b hb hn)⟩
theorem Chg.after (h : Ext w w') (k : Chg S w' w'') : Chg S w w'' := (Chg.of_ext h S).trans k
theorem Chg.drew (h : Chg S a w) : Chg S a w.drew := ⟨h.os, h.tape, h.output, h.size, h.block⟩
theorem Chg.drewN (h : Chg S a w) (n : Nat) : Chg S a (w.drewN n) := ⟨h.os, h.tape, h.output, h.size, h.block⟩
theorem Chg.alloc (h : Chg S a w) (o : Obj) : Chg S a (w.alloc o) := h.trans (Chg.of_ext ((Ext.refl w).alloc (Nat.le_refl _) o) S)
theorem Chg.set (h : Chg S a w) {p : Addr} (hp : S p.block ∨ a.heap.size ≤ p.block) (u : Value) : Chg S a (w.setCell p u) :=
  ⟨h.os, h.tape, h.output, by have := h.size; unfold World.setCell; simpa using this, fun b hb hn => (Below.heap_setCell w p u b (fun e => by subst e; rcases hp with hp | hp; exact hn hp; omega)).trans (h.block b hb hn)⟩
theorem Chg.at (h : Chg S a w) (b i : Nat) (hp : S b ∨ a.heap.size ≤ b) (u : Value) : Chg S a (w.setCell ⟨b, i, none⟩ u) := h.set (p := ⟨b, i, none⟩) hp u
theorem Chg.grown (h : Chg S a w) {r : Option Nat} (hg : w.grownBy w' r) (hr : ∀ k, r = some k → S k ∨ a.heap.size ≤ k) : Chg S a w' :=
  ⟨hg.os.trans h.os, hg.tape.trans h.tape, hg.output.trans h.output, Nat.le_trans h.size hg.size, fun b hb hn => (hg.block b (Nat.lt_of_lt_of_le hb h.size) (fun e => by rcases hr b e.symm with x | x; exact hn x; omega)).trans (h.block b hb hn)⟩
theorem Chg.cell (h : Chg S w w') {p : Addr} {v : Value} (hc : w.cell? p = some v) (hn : ¬ S p.block) : w'.cell? p = some v :=
  (World.cell?_of_block (h.block _ (World.block_lt_of_cell? w p hc) hn)).trans hc
theorem Chg.unfrozen (h : Chg S w w') {p : Addr} {v : Value} (hc : w.cell? p = some v) (hf : w.frozen? p = false) (hn : ¬ S p.block) : w'.frozen? p = false :=
  (World.frozen?_of_block (h.block _ (World.block_lt_of_cell? w p hc) hn)).trans hf
theorem Row.chg {b : Nat} {e : TypeId} {cs : Array Value} (h : Row w b e cs) (k : Chg S w w') (hn : ¬ S b) : Row w' b e cs := (k.block b h.lt hn).trans h
theorem Own.chg {B : Nat} {e : TypeId} {v : Value} {cs : List Value} (h : Own w B e v cs) (k : Chg S w w') (hn : ∀ b, v.ownBlock = some b → ¬ S b) : Own w' B e v cs := by
  rcases h.forms with ⟨rfl, rfl⟩ | ⟨g, cap, cur, rfl, h2, hr, hl, hs, ht, h5⟩
  · exact World.ownsRow_nil _ _ _ _
  · exact Own.mk h2 (hr.chg k (hn g rfl)) hl hs ht h5
theorem Own.lt {B : Nat} {e : TypeId} {v : Value} {cs : List Value} (h : Own w B e v cs) {b : Nat} (hb : v.ownBlock = some b) : b < w.heap.size := (World.ownsRow.lt h b hb).2
theorem Own.row {B : Nat} {e : TypeId} {v : Value} {cs : List Value} (h : Own w B e v cs) {b : Nat} (hb : v.ownBlock = some b) : ∃ cur, Row w b e cur := by
  rcases h.forms with ⟨rfl, -⟩ | ⟨g, cap, cur, rfl, h2, hr, -⟩
  · cases hb
  · cases hb; exact ⟨cur, hr⟩
/-- Two rows of two element types lie in two blocks; a row is no map. -/
theorem Row.ne {b c : Nat} {e f : TypeId} {cs ds : Array Value} (h : Row w b e cs) (k : Row w c f ds) (hef : e ≠ f) : b ≠ c := fun x => by
  subst x
  unfold Row at h k
  rw [h] at k
  simp only [Option.some.injEq, Obj.cells.injEq] at k
  exact hef k.2.1
end
end Go.Proofs.YthkbbcdnmdjhdaaGreat
/-! XSep: Things that lie in blocks of their own, side by side; what lies in new blocks since a base world; what a call does to one leaves the others. No statement about the program. -/
namespace Go.Proofs.YthkbbcdnmdjhdaaGreat
open Go.RowKit

structure Thing where
  is : World → (Nat → Prop) → Prop
  lt : ∀ {w : World} {T : Nat → Prop}, is w T → ∀ b, T b → b < w.heap.size
  chg : ∀ {w w' : World} {T U : Nat → Prop}, is w T → Chg U w w' → (∀ b, T b → ¬ U b) → is w' T
/-- Nothing. -/
def emp : Thing := ⟨fun _ T => ∀ b, ¬ T b, fun h b hb => (h b hb).elim, fun h _ _ => h⟩
/-- Two, side by side. -/
def Thing.star (X Y : Thing) : Thing :=
  ⟨fun w T => ∃ A B, X.is w A ∧ Y.is w B ∧ (∀ b, A b → ¬ B b) ∧ ∀ b, T b ↔ A b ∨ B b,
   fun ⟨_, _, h1, h2, _, h4⟩ b hb => ((h4 b).1 hb).elim (X.lt h1 b) (Y.lt h2 b),
   fun ⟨A, B, h1, h2, h3, h4⟩ hc hn => ⟨A, B, X.chg h1 hc fun b hb => hn b ((h4 b).2 (.inl hb)), Y.chg h2 hc fun b hb => hn b ((h4 b).2 (.inr hb)), h3, h4⟩⟩
/-- Whoever has X has Y, too, in no more blocks. -/
def Thing.Ent (X Y : Thing) : Prop := ∀ w T, X.is w T → ∃ T', (∀ b, T' b → T b) ∧ Y.is w T'
section
variable {X Y Z X' Y' : Thing}
theorem Thing.Ent.refl (X : Thing) : X.Ent X := fun _ T h => ⟨T, fun _ h => h, h⟩
theorem Thing.Ent.trans (h : X.Ent Y) (k : Y.Ent Z) : X.Ent Z := fun w T hT => by
  obtain ⟨T1, h1, h2⟩ := h w T hT
  obtain ⟨T2, h3, h4⟩ := k w T1 h2
  exact ⟨T2, fun b hb => h1 b (h3 b hb), h4⟩
theorem Thing.Ent.star (h : X.Ent X') (k : Y.Ent Y') : (X.star Y).Ent (X'.star Y') := fun w T ⟨A, B, h1, h2, h3, h4⟩ => by
  obtain ⟨A', a1, a2⟩ := h w A h1
  obtain ⟨B', b1, b2⟩ := k w B h2
  exact ⟨fun b => A' b ∨ B' b, fun b hb => (h4 b).2 (hb.elim (fun h => .inl (a1 b h)) fun h => .inr (b1 b h)), A', B', a2, b2, fun b ha hb => h3 b (a1 b ha) (b1 b hb), fun _ => Iff.rfl⟩
theorem Thing.Ent.left : (X.star Y).Ent X := fun _ _ ⟨A, _, h1, _, _, h4⟩ => ⟨A, fun b hb => (h4 b).2 (.inl hb), h1⟩
theorem Thing.Ent.right : (X.star Y).Ent Y := fun _ _ ⟨_, B, _, h2, _, h4⟩ => ⟨B, fun b hb => (h4 b).2 (.inr hb), h2⟩
theorem Thing.Ent.comm : (X.star Y).Ent (Y.star X) := fun _ _ ⟨A, B, h1, h2, h3, h4⟩ => ⟨_, fun _ h => h, B, A, h2, h1, fun b hb ha => h3 b ha hb, fun b => (h4 b).trans Or.comm⟩
theorem Thing.Ent.assoc : ((X.star Y).star Z).Ent (X.star (Y.star Z)) := fun _ _ ⟨_, C, ⟨A, B, h1, h2, h3, h4⟩, h5, h6, h7⟩ =>
  ⟨_, fun _ h => h, A, fun b => B b ∨ C b, h1, ⟨B, C, h2, h5, fun b hb hc => h6 b ((h4 b).2 (.inr hb)) hc, fun _ => Iff.rfl⟩, fun b ha hb => hb.elim (h3 b ha) (h6 b ((h4 b).2 (.inl ha))), fun b => (h7 b).trans ((or_congr (h4 b) Iff.rfl).trans or_assoc)⟩
theorem Thing.Ent.assoc' : (X.star (Y.star Z)).Ent ((X.star Y).star Z) :=
  Thing.Ent.comm.trans ((Thing.Ent.star .comm (.refl X)).trans (Thing.Ent.assoc.trans (Thing.Ent.comm.trans (Thing.Ent.star .comm (.refl _)))))
/-- The first two change their places. -/
theorem Thing.Ent.swap : (X.star (Y.star Z)).Ent (Y.star (X.star Z)) := Thing.Ent.assoc'.trans ((Thing.Ent.star .comm (.refl _)).trans .assoc)
theorem Thing.Ent.emp : X.Ent (X.star emp) := fun _ T h => ⟨T, fun _ h => h, T, fun _ => False, h, fun _ h => h, fun _ _ h => h, fun _ => (or_false _).symm ▸ Iff.rfl⟩
end
/-- X lies in blocks that are new since w0; nothing that was there then has turned. -/
def Lab (w0 w : World) (X : Thing) : Prop := ∃ T, X.is w T ∧ (∀ b, T b → w0.heap.size ≤ b) ∧ Ext w0 w
/-- What a call made of what lay in T. -/
def Made (X : Thing) (T : Nat → Prop) (w w' : World) : Prop := Chg T w w' ∧ ∃ T', (∀ b, T' b → Grow T w w' b) ∧ X.is w' T'
section
variable {w0 w w' : World} {X Y Z X' : Thing}
theorem Lab.toExt (h : Lab w0 w X) : Ext w0 w := by obtain ⟨T, _, _, h⟩ := h; exact h
theorem Lab.ent (h : Lab w0 w X) (k : X.Ent Y) : Lab w0 w Y := by
  obtain ⟨T, h1, h2, h3⟩ := h
  obtain ⟨T', h4, h5⟩ := k w T h1
  exact ⟨T', h5, fun b hb => h2 b (h4 b hb), h3⟩
theorem Lab.ext (h : Lab w0 w X) (k : Ext w w') : Lab w0 w' X := by
  obtain ⟨T, h1, h2, h3⟩ := h
  exact ⟨T, X.chg h1 (Chg.of_ext k (fun _ => False)) (fun _ _ h => h), h2, Ext.trans h3 k⟩
theorem Lab.start (w : World) : Lab w w emp := ⟨fun _ => False, fun _ h => h, fun _ h => h.elim, Ext.refl w⟩
theorem Lab.drew (h : Lab w0 w X) : Lab w0 w.drew X := h.ext (Ext.of_drawn w 1)
theorem Lab.left (h : Lab w0 w (X.star Y)) : Lab w0 w X := h.ent .left
theorem Lab.right (h : Lab w0 w (X.star Y)) : Lab w0 w Y := h.ent .right
theorem Lab.comm (h : Lab w0 w (X.star Y)) : Lab w0 w (Y.star X) := h.ent .comm
theorem Lab.swap (h : Lab w0 w (X.star (Y.star Z))) : Lab w0 w (Y.star (X.star Z)) := h.ent .swap
theorem Lab.assoc (h : Lab w0 w ((X.star Y).star Z)) : Lab w0 w (X.star (Y.star Z)) := h.ent .assoc
theorem Lab.assoc' (h : Lab w0 w (X.star (Y.star Z))) : Lab w0 w ((X.star Y).star Z) := h.ent .assoc'
theorem Lab.emp (h : Lab w0 w X) : Lab w0 w (X.star emp) := h.ent .emp
theorem Lab.third {R : Thing} (h : Lab w0 w (X.star (Y.star (Z.star R)))) : Lab w0 w (Z.star (X.star (Y.star R))) := (h.ent (.star (.refl _) .swap)).swap
theorem Lab.third' {R : Thing} (h : Lab w0 w (Z.star (X.star (Y.star R)))) : Lab w0 w (X.star (Y.star (Z.star R))) := h.swap.ent (.star (.refl _) .swap)
theorem Lab.fourth {V R : Thing} (h : Lab w0 w (X.star (Y.star (Z.star (V.star R))))) : Lab w0 w (V.star (X.star (Y.star (Z.star R)))) := (h.ent (.star (.refl _) (.star (.refl _) .swap))).third
theorem Lab.fourth' {V R : Thing} (h : Lab w0 w (V.star (X.star (Y.star (Z.star R))))) : Lab w0 w (X.star (Y.star (Z.star (V.star R)))) := h.third'.ent (.star (.refl _) (.star (.refl _) .swap))
theorem Lab.flip {V R : Thing} (h : Lab w0 w (X.star (Y.star (Z.star (V.star R))))) : Lab w0 w (Z.star (V.star (X.star (Y.star R)))) := (h.assoc'.ent (.star (.refl _) .assoc')).swap.assoc.ent (.star (.refl _) (.star (.refl _) .assoc))
theorem Lab.fifth' {V U R : Thing} (h : Lab w0 w (X.star (Y.star (Z.star (V.star (U.star R)))))) : Lab w0 w (Y.star (Z.star (V.star (U.star (X.star R))))) := h.swap.ent (.star (.refl _) (.trans .swap (.star (.refl _) (.trans .swap (.star (.refl _) .swap)))))
theorem Lab.in_ (h : Lab w0 w X) (k : X.Ent (Y.star Z)) : Lab w0 w (Y.star Z) := h.ent k
/-- What was made of the first leaves the other. -/
theorem Lab.made (h : Lab w0 w (X.star Y)) (k : ∀ T, X.is w T → Made X' T w w') : Lab w0 w' (X'.star Y) := by
  obtain ⟨T, ⟨A, B, h1, h2, h3, h4⟩, h5, h6⟩ := h
  obtain ⟨hc, T', k1, k2⟩ := k A h1
  have lt := Y.lt h2
  refine ⟨fun b => T' b ∨ B b, ⟨T', B, k2, Y.chg h2 hc (fun b hb ha => h3 b ha hb), fun b hb hB => ?_, fun _ => Iff.rfl⟩, fun b hb => ?_, ?_⟩
  · rcases k1 b hb with x | x
    · exact h3 b x hB
    · have := lt b hB; omega
  · rcases hb with hb | hb
    · rcases k1 b hb with x | x
      · exact h5 b ((h4 b).2 (.inl x))
      · have := h6.size; omega
    · exact h5 b ((h4 b).2 (.inr hb))
  · exact ⟨hc.os.trans h6.os, hc.tape.trans h6.tape, hc.output.trans h6.output, Nat.le_trans h6.size hc.size, fun b hb => (hc.block b (Nat.lt_of_lt_of_le hb h6.size) (fun ha => by have := h5 b ((h4 b).2 (.inl ha)); omega)).trans (h6.block b hb)⟩
theorem Lab.call {P : Program} {f : FuncId} {args : Array Value} {Q : Thing → Ending → Prop} (h : Lab w0 w (X.star Y)) (k : ∀ T, X.is w T → Calls P f args w fun e w' => ∃ X', Q X' e ∧ Made X' T w w') :
    Calls P f args w fun e w' => ∃ X', Q X' e ∧ Lab w0 w' (X'.star Y) := by
  obtain ⟨T, ⟨A, B, h1, h2, h3, h4⟩, h5, h6⟩ := h
  refine (k A h1).mono fun e w' ⟨X', q, hm⟩ => ⟨X', q, ?_⟩
  have lt := Y.lt h2
  obtain ⟨hc, T', k1, k2⟩ := hm
  refine ⟨fun b => T' b ∨ B b, ⟨T', B, k2, Y.chg h2 hc (fun b hb ha => h3 b ha hb), fun b hb hB => ?_, fun _ => Iff.rfl⟩, fun b hb => ?_, ?_⟩
  · rcases k1 b hb with x | x
    · exact h3 b x hB
    · have := lt b hB; omega
  · rcases hb with hb | hb
    · rcases k1 b hb with x | x
      · exact h5 b ((h4 b).2 (.inl x))
      · have := h6.size; omega
    · exact h5 b ((h4 b).2 (.inr hb))
  · exact ⟨hc.os.trans h6.os, hc.tape.trans h6.tape, hc.output.trans h6.output, Nat.le_trans h6.size hc.size, fun b hb => (hc.block b (Nat.lt_of_lt_of_le hb h6.size) (fun ha => by have := h5 b ((h4 b).2 (.inl ha)); omega)).trans (h6.block b hb)⟩
/-- Something that was made anew. -/
theorem Lab.new (h : Lab w0 w Y) (hx : Ext w w') {T : Nat → Prop} (hX : X.is w' T) (hT : ∀ b, T b → w.heap.size ≤ b) : Lab w0 w' (X.star Y) := by
  obtain ⟨B, h2, h5, h6⟩ := h
  have lt := Y.lt h2
  exact ⟨fun b => T b ∨ B b, ⟨T, B, hX, Y.chg h2 (Chg.of_ext hx (fun _ => False)) (fun _ _ h => h), fun b hb hB => by have := lt b hB; have := hT b hb; omega, fun _ => Iff.rfl⟩, fun b hb => hb.elim (fun hb => Nat.le_trans h6.size (hT b hb)) (h5 b), Ext.trans h6 hx⟩
theorem Lab.get (h : Lab w0 w X) : ∃ T, X.is w T := by obtain ⟨T, h, _⟩ := h; exact ⟨T, h⟩
theorem Made.of_ext {T : Nat → Prop} (hX : X.is w T) (h : Ext w w') : Made X T w w' := ⟨Chg.of_ext h T, T, fun _ hb => .inl hb, X.chg hX (Chg.of_ext h (fun _ => False)) (fun _ _ h => h)⟩
end
/-- A slice that owns its row. -/
def ownT (e : TypeId) (v : Value) (cs : List Value) : Thing :=
  ⟨fun w T => Own w 0 e v cs ∧ ∀ b, T b ↔ v.ownBlock = some b, fun h b hb => Own.lt h.1 ((h.2 b).1 hb), fun h hc hn => ⟨Own.chg h.1 hc fun b hb => hn b ((h.2 b).2 hb), h.2⟩⟩
theorem ownT.own {w0 w : World} {e : TypeId} {v : Value} {cs : List Value} (h : Lab w0 w (ownT e v cs)) : Own w 0 e v cs := by obtain ⟨T, h, _⟩ := h; exact h.1
/-- A row in a block. -/
def rowT (b : Nat) (e : TypeId) (cs : Array Value) : Thing :=
  ⟨fun w T => Row w b e cs ∧ ∀ k, T k ↔ b = k, fun h k hk => by rw [← (h.2 k).1 hk]; exact h.1.lt, fun h hc hn => ⟨h.1.chg hc (hn b ((h.2 b).2 rfl)), h.2⟩⟩
theorem rowT.row {w0 w : World} {b : Nat} {e : TypeId} {cs : Array Value} (h : Lab w0 w (rowT b e cs)) : Row w b e cs := by obtain ⟨T, h, _⟩ := h; exact h.1
/-- One cell of a row written. -/
theorem Lab.set {w0 w : World} {Z : Thing} {e : TypeId} {g n c : Nat} {cs : List Value} (h : Lab w0 w ((ownT e (.slice (some ⟨g, 0, none⟩) n c) cs).star Z)) (i : Nat) (u : Value) : Lab w0 (w.setCell ⟨g, i, none⟩ u) ((ownT e (.slice (some ⟨g, 0, none⟩) n c) (cs.set i u)).star Z) :=
  h.made fun T hT => by
    have hg : T g := (hT.2 g).2 rfl
    have hO : Own w 0 e (.slice (some ⟨g, 0, none⟩) n c) cs := hT.1
    exact ⟨(Chg.refl T w).at g i (.inl hg) u, T, fun b hb => .inl hb, hO.set i u, hT.2⟩
/-- One appended. -/
theorem wp_lapp1 {P : Program} {W w0 : World} {Z : Thing} {o : Oper} {a : Act} {Q : Exit → Act → World → Prop} {K : Act → World → Prop} (s x : Operand) (t e : TypeId) (z : Value) (bytes : Nat) (ho : o.op = .call { callee := .builtin .append, args := #[s, x], argTypes := #[t, t] }) (ht : P.underlying t = some (.slice e))
    (hi : (P.info? e).map (fun i => (i.zero, i.size, i.bytes)) = some (some z, 1, bytes)) (hz : z.cells = #[z]) (hby : bytes ≤ 64)
    {xa : Option Addr} {n xc q : Nat} {u : Value} {cs : List Value} (hs : a.eval s = .slice xa n xc) (hx : a.eval x = .slice (some ⟨q, 0, none⟩) 1 1) (hq : q = W.heap.size) (hn : n = cs.length)
    (hL : Lab w0 W ((ownT e (.slice xa n xc) cs).star Z)) (hu : u.oneCell' = true) (hlen : cs.length ≤ 100000)
    (hK : ∀ ad c w', Lab w0 w' ((ownT e (.slice ad (n + 1) c) (cs ++ [u])).star Z) → K (a.put o.dst (.slice ad (n + 1) c)) w') : Oper.wp P o a (W.alloc (.cells #[u] e)) K Q := by
  subst hq
  subst hn
  have x6 : Ext W (W.alloc (.cells #[u] e)) := (Ext.refl W).alloc (Nat.le_refl _) _
  have hL2 := hL.ext x6
  have hsrc : Cells (W.alloc (.cells #[u] e)) (.slice (some ⟨W.heap.size, 0, none⟩) 1 1) [u] := (Own.new W 0 e #[u] (Nat.zero_le _) (by unfold maxLen; simp)).cells
  have hO := ownT.own hL2.left
  have hb : (2 * (cs.length + [u].length) + 768) * bytes ≤ 281474976710656 := by
    have : (2 * (cs.length + 1) + 768) * bytes ≤ 200770 * 64 := Nat.mul_le_mul (by omega) hby
    simp only [List.length_singleton]; omega
  refine wp_appx s x t t e z bytes ho ht hi hz hs hO hx (Cells.src ht hsrc (by simpa using hu)) (by simp only [List.length_singleton, maxLen]; omega) hb (Nat.zero_le _) (cs.length + 1) (by simp) fun ad c w' ⟨h1, h2, h3⟩ => hK ad c w' (hL2.made fun T hT => ⟨(Chg.refl T _).grown h2 fun k hk => .inl ((hT.2 k).2 hk), fun b => (Value.slice ad (cs.length + 1) c).ownBlock = some b, fun b hb => ?_, by
    have e1 : (cs ++ [u]).length = cs.length + 1 := by simp
    exact h1, fun _ => Iff.rfl⟩)
  rcases h3 with h3 | ⟨k, h3, h4⟩
  · rw [h3] at hb; exact .inl ((hT.2 b).2 hb)
  · rw [h3] at hb; cases hb; exact .inr ⟨h4, h1.lt h3⟩
theorem ownT.nil {w0 w : World} {Z : Thing} (e : TypeId) (h : Lab w0 w Z) : Lab w0 w ((ownT e (.slice none 0 0) []).star Z) :=
  h.new (Ext.refl w) (X := ownT e (.slice none 0 0) []) (T := fun _ => False) ⟨Own.nil _ _ _, fun b => ⟨False.elim, fun h => by cases h⟩⟩ fun _ h => h.elim
end Go.Proofs.YthkbbcdnmdjhdaaGreat
/-! XAppK: append onto rows whose elements have k cells; the block that comes out is the old one or a new one. No statement about the program. -/
namespace Go.Proofs.YthkbbcdnmdjhdaaGreat
open Go.RowKit

/-- A row of n elements of k cells each. -/
abbrev OwnK (w : World) (B : Nat) (e : TypeId) (k : Nat) (v : Value) (n : Nat) (xs : List Value) : Prop := w.ownsRow B e k v n xs
section
variable {w w' : World} {B n k : Nat} {e : TypeId} {v : Value} {xs : List Value}
theorem OwnK.forms (h : OwnK w B e k v n xs) : xs.length = n * k ∧ ((v = .slice none 0 0 ∧ n = 0 ∧ xs = []) ∨ ∃ g cap cur, v = .slice (some ⟨g, 0, none⟩) n cap ∧ B ≤ g ∧ Row w g e cur ∧ n ≤ cap ∧ cur.size = cap * k ∧ cur.toList.take (n * k) = xs ∧ cap ≤ maxLen) := by
  obtain ⟨h0, h⟩ := h
  refine ⟨h0, ?_⟩
  rcases h with ⟨h1, h2⟩ | ⟨g, cap, cur, h1, h2, h3, h4, h5, h6, h7⟩
  · exact .inl ⟨h1, h2, List.eq_nil_of_length_eq_zero (by rw [h0, h2]; omega)⟩
  · exact .inr ⟨g, cap, cur, h1, h2, h3, h4, h6, h7, h5⟩
theorem OwnK.mk {g cap : Nat} {cur : Array Value} (h0 : xs.length = n * k) (h2 : B ≤ g) (h3 : Row w g e cur) (h4 : n ≤ cap) (h6 : cur.size = cap * k) (h7 : cur.toList.take (n * k) = xs) (h5 : cap ≤ maxLen) : OwnK w B e k (.slice (some ⟨g, 0, none⟩) n cap) n xs :=
  ⟨h0, .inr ⟨g, cap, cur, rfl, h2, h3, h4, h5, h6, h7⟩⟩
theorem OwnK.nil (w : World) (B : Nat) (e : TypeId) (k : Nat) : OwnK w B e k (.slice none 0 0) 0 [] := ⟨by simp, .inl ⟨rfl, rfl⟩⟩
theorem OwnK.slice (h : OwnK w B e k v n xs) : ∃ a c, v = .slice a n c := by
  rcases h.forms with ⟨-, ⟨rfl, rfl, -⟩ | ⟨g, cap, cur, rfl, -⟩⟩
  · exact ⟨_, _, rfl⟩
  · exact ⟨_, _, rfl⟩
theorem OwnK.block (h : OwnK w B e k v n xs) (b : Nat) (hb : v.ownBlock = some b) : B ≤ b := by
  rcases h.forms with ⟨-, ⟨rfl, -⟩ | ⟨g, cap, cur, rfl, h2, -⟩⟩
  · cases hb
  · cases hb; exact h2
theorem OwnK.row (h : OwnK w B e k v n xs) {b : Nat} (hb : v.ownBlock = some b) : ∃ cur, Row w b e cur := by
  rcases h.forms with ⟨-, ⟨rfl, -⟩ | ⟨g, cap, cur, rfl, h2, hr, -⟩⟩
  · cases hb
  · cases hb; exact ⟨cur, hr⟩
theorem OwnK.lt (h : OwnK w B e k v n xs) {b : Nat} (hb : v.ownBlock = some b) : b < w.heap.size := by obtain ⟨_, hr⟩ := h.row hb; exact hr.lt
theorem OwnK.mono {B' : Nat} (h : OwnK w B e k v n xs) (hB : B' ≤ B) : OwnK w B' e k v n xs := by
  rcases h.forms with ⟨h0, ⟨rfl, rfl, rfl⟩ | ⟨g, cap, cur, rfl, h2, h3, h4, h5, h6, h7⟩⟩
  · exact OwnK.nil _ _ _ _
  · exact OwnK.mk h0 (by omega) h3 h4 h5 h6 h7
theorem OwnK.chg {S : Nat → Prop} (h : OwnK w B e k v n xs) (hc : Chg S w w') (hn : ∀ b, v.ownBlock = some b → ¬ S b) : OwnK w' B e k v n xs := by
  rcases h.forms with ⟨h0, ⟨rfl, rfl, rfl⟩ | ⟨g, cap, cur, rfl, h2, h3, h4, h5, h6, h7⟩⟩
  · exact OwnK.nil _ _ _ _
  · exact OwnK.mk h0 h2 (h3.chg hc (hn g rfl)) h4 h5 h6 h7
theorem OwnK.ext (h : OwnK w B e k v n xs) (hx : Ext w w') : OwnK w' B e k v n xs := h.chg (Chg.of_ext hx fun _ => False) fun _ _ h => h
/-- Its cells. -/
theorem OwnK.cell (h : OwnK w B e k v n xs) {j : Nat} {u : Value} (hu : xs[j]? = some u) : ∃ g cap, v = .slice (some ⟨g, 0, none⟩) n cap ∧ B ≤ g ∧ n ≤ cap ∧ w.cell? ⟨g, j, none⟩ = some u := by
  rcases h.forms with ⟨h0, ⟨rfl, rfl, rfl⟩ | ⟨g, cap, cur, rfl, h2, h3, h4, h5, h6, h7⟩⟩
  · simp at hu
  · refine ⟨g, cap, rfl, h2, h4, h3.cell ?_⟩
    rw [← h6, List.getElem?_take] at hu
    split at hu
    · simpa using hu
    · cases hu
/-- One cell written. -/
theorem OwnK.set {g n' cap : Nat} (h : OwnK w B e k (.slice (some ⟨g, 0, none⟩) n' cap) n xs) (i : Nat) (u : Value) : OwnK (w.setCell ⟨g, i, none⟩ u) B e k (.slice (some ⟨g, 0, none⟩) n' cap) n (xs.set i u) := by
  rcases h.forms with ⟨h0, ⟨h1, -⟩ | ⟨g', cap', cur, h1, h2, h3, h4, h5, h6, h7⟩⟩
  · cases h1
  · simp only [Value.slice.injEq, Option.some.injEq, Addr.mk.injEq, and_true] at h1
    obtain ⟨rfl, rfl, rfl⟩ := h1
    refine OwnK.mk (by simpa using h0) h2 (h3.set i u) h4 (by simpa using h5) ?_ h7
    simp only [Array.toList_setIfInBounds]
    rw [List.take_set, h6]
theorem OwnK.new (w : World) (e : TypeId) (k n : Nat) (cs : Array Value) (h : cs.size = n * k) (hn : n ≤ maxLen) : OwnK (w.alloc (.cells cs e)) w.heap.size e k (.slice (some ⟨w.heap.size, 0, none⟩) n n) n cs.toList :=
  OwnK.mk (by simpa using h) (Nat.le_refl _) (Row.new w e cs) (Nat.le_refl _) h (by rw [List.take_of_length_le (by simp [h])]) hn
end
def AppOutK (w : World) (B : Nat) (e : TypeId) (k : Nat) (v : Value) (n : Nat) (out : List Value) (v' : Value) (w' : World) : Prop :=
  OwnK w' B e k v' n out ∧ w.grownBy w' v.ownBlock ∧ (v'.ownBlock = v.ownBlock ∨ ∃ q, v'.ownBlock = some q ∧ w.heap.size ≤ q)
theorem appk_room {w : World} {B : Nat} {e : TypeId} {k g cap n m : Nat} {cs news : List Value} (hown : OwnK w B e k (.slice (some ⟨g, 0, none⟩) n cap) n cs) (hnl : news.length = m * k) (hroom : n + m ≤ cap) :
    AppOutK w B e k (.slice (some ⟨g, 0, none⟩) n cap) (n + m) (cs ++ news) (.slice (some ⟨g, 0, none⟩) (n + m) cap) (w.setCells g (n * k) news) := by
  rcases hown.forms with ⟨h0, ⟨h, -⟩ | ⟨g', cap', cur, h, hb, hr, hl, hs, ht, hm⟩⟩
  · cases h
  · simp only [Value.slice.injEq, Option.some.injEq, Addr.mk.injEq, and_true, true_and] at h
    obtain ⟨rfl, rfl⟩ := h
    obtain ⟨cur', h1, h2, h3⟩ := setCells_block g news (n * k) w e cur hr
    have hmul : n * k + m * k ≤ cap * k := by rw [← Nat.add_mul]; exact Nat.mul_le_mul_right k hroom
    have hlen : (cs ++ news).length = (n + m) * k := by rw [List.length_append, h0, hnl, Nat.add_mul]
    refine ⟨?_, ⟨(setCells_rest g news _ w).1, (setCells_rest g news _ w).2.1, (setCells_rest g news _ w).2.2, by rw [setCells_size]; exact Nat.le_refl _, fun q _ hk => setCells_other g news _ w q (fun h => hk (by rw [h]; rfl))⟩, .inl rfl⟩
    refine OwnK.mk hlen hb h1 hroom (by omega) ?_ hm
    apply List.ext_getElem?
    intro j
    rw [List.getElem?_take]
    by_cases c : j < (n + m) * k
    · rw [if_pos c, Array.getElem?_toList, h3 j, List.getElem?_append, h0, hs]
      rw [Nat.add_mul] at c
      by_cases c2 : j < n * k
      · rw [if_neg (by omega), if_pos c2, ← ht, List.getElem?_take, if_pos c2, Array.getElem?_toList]
      · rw [if_pos ⟨by omega, by omega, by omega⟩, if_neg c2]
    · rw [if_neg c, List.getElem?_eq_none (by omega)]
theorem appk_grow {w : World} {B : Nat} {e : TypeId} {k n m : Nat} {z v : Value} {cs news : List Value} (hz : z.cells.size = k) (hB : B ≤ w.heap.size) (hc : cs.length = n * k) (hnl : news.length = m * k) (need old : Nat) (hneed : need = n + m) (hm : need ≤ maxLen) :
    AppOutK w B e k v (n + m) (cs ++ news) (.slice (some ⟨w.heap.size, 0, none⟩) need (grownCap w need old e)) (w.drew.alloc (.cells ((cs ++ news).toArray ++ Builtin.zeroCells z.cells (grownCap w need old e - need)) e)) := by
  have hge := grownCap_ge w need old e
  have hcm : grownCap w need old e ≤ maxLen := grownCap_le_maxLen w need old e hm
  have hlen : (cs ++ news).length = need * k := by rw [List.length_append, hc, hnl, hneed, Nat.add_mul]
  refine ⟨?_, ⟨rfl, rfl, rfl, by simp, fun q hq _ => Below.heap_alloc w.drew _ q hq⟩, .inr ⟨_, rfl, Nat.le_refl _⟩⟩
  rw [← hneed]
  refine OwnK.mk hlen hB (Row.new w.drew e _) hge ?_ ?_ hcm
  · simp only [Array.size_append, List.size_toArray, size_zeroCells, hz, hlen]
    have : (grownCap w need old e - need) * k + need * k = grownCap w need old e * k := by rw [← Nat.add_mul]; congr 1; omega
    have h2 : k * (grownCap w need old e - need) = (grownCap w need old e - need) * k := Nat.mul_comm _ _
    omega
  · rw [Array.toList_append, List.take_left' (by rw [← hlen])]
theorem run_appk {P : Program} (w : World) (t tx ty e : TypeId) (z : Value) (k bytes : Nat) (ht : P.underlying t = some (.slice e))
    (hi : (P.info? e).map (fun i => (i.zero, i.size, i.bytes)) = some (some z, k, bytes)) (hz : z.cells.size = k)
    {B n m : Nat} {v : Value} {cs : List Value} (hown : OwnK w B e k v n cs) {x : Value} {news : List Value} (hx : Src P k tx x m news w) (hnl : news.length = m * k)
    (hm : n + m ≤ maxLen) (hb : (2 * (n + m) + 768) * bytes ≤ 281474976710656) (hB : B ≤ w.heap.size) :
    ∃ v' w', (Builtin.append_ #[t, tx] ty #[v, x]).run P w = .ok v' w' ∧ AppOutK w B e k v (n + m) (cs ++ news) v' w' := by
  obtain ⟨i, hi, hzz, hs, hby⟩ := info_parts hi
  have hm' : ((n + m : Nat) : Int) ≤ 9223372036854775807 := by simp only [maxLen] at hm; omega
  have hfit : ∀ old, old < n + m → Builtin.nextslicecap (n + m) old * i.bytes ≤ 281474976710656 := fun old ho => by
    rw [hby]; exact Nat.le_trans (Nat.mul_le_mul_right _ (nextslicecap_le _ _ ho)) hb
  rcases hown.forms with ⟨h0, ⟨rfl, rfl, rfl⟩ | ⟨g, cap, cur, rfl, hbg, hr, hl, hcs, htk, hcap⟩⟩
  · by_cases hm0 : m = 0
    · subst hm0
      have hn0 : news = [] := List.eq_nil_of_length_eq_zero (by omega)
      subst hn0
      refine ⟨.slice none 0 0, w, ?_, OwnK.nil _ _ _ _, ⟨rfl, rfl, rfl, Nat.le_refl _, fun _ _ _ => rfl⟩, .inl rfl⟩
      have hc : (Builtin.firstCells k 0 x).run P w = .ok #[] w := hx.cells
      have hlen : ∀ w', (Builtin.lenOf x).run P w' = .ok 0 w' := hx.len
      rcases hx.kind with ⟨e', hk⟩ | hk <;> simp [Builtin.append_, run_underlying ht, run_underlying hk, sizeOf, typeInfo, hi, hs, hlen, hc]
    · have hr := run_append_grow_src (P := P) w t tx ty e i z ht hi hzz none 0 0 [] (by simp [Builtin.firstCells]) x m news (by rw [hs]; exact hx) (by omega) (by simpa using hm') (by simpa using hfit 0 (by simp; omega))
      exact ⟨_, _, hr, appk_grow (w := w) (cs := []) hz hB (by simp) hnl _ 0 (by simp) (by simpa using hm)⟩
  · by_cases hroom : n + m ≤ cap
    · have hmul : n * k + m * k ≤ cap * k := by rw [← Nat.add_mul]; exact Nat.mul_le_mul_right k hroom
      have hc : ∀ j, j < news.length → (w.cell? ⟨g, 0 + n * i.size + j, none⟩).isSome = true := fun j hj => by
        rw [hr.cell (v := cur[0 + n * i.size + j]'(by rw [hs]; omega)) (by rw [Array.getElem?_eq_getElem])]; rfl
      have hrun := run_append_room_src (P := P) w t tx ty e i ht hi g 0 n cap x m news (by rw [hs]; exact hx) hroom hc (fun j _ => hr.unfrozen _)
      rw [hs, Nat.zero_add] at hrun
      exact ⟨_, _, hrun, appk_room hown hnl hroom⟩
    · have hold : (Builtin.firstCells i.size n (.slice (some ⟨g, 0, none⟩) n cap)).run P w.drew = .ok cs.toArray w.drew := by
        refine run_firstCells_some (P := P) w.drew i.size n ⟨g, 0, none⟩ n cap cs (by rw [hs, h0]) fun j u hu => ?_
        rw [Addr.add_lit, Nat.zero_add]
        obtain ⟨g', cap', e1, -, -, h2⟩ := hown.cell hu
        simp only [Value.slice.injEq, Option.some.injEq, Addr.mk.injEq, and_true, true_and] at e1
        obtain ⟨rfl, -⟩ := e1
        exact h2
      have hrun := run_append_grow_src (P := P) w t tx ty e i z ht hi hzz (some ⟨g, 0, none⟩) n cap cs hold x m news (by rw [hs]; exact hx) (by omega) hm' (hfit cap (by omega))
      exact ⟨_, _, hrun, appk_grow hz hB h0 hnl _ cap rfl hm⟩
/-- A part of a row as what is appended. -/
theorem OwnK.src {P : Program} {w : World} {B n k : Nat} {e : TypeId} {v : Value} {xs : List Value} {tx e' : TypeId} (hk : P.underlying tx = some (.slice e')) (h : OwnK w B e k v n xs) (h1 : ∀ u ∈ xs, u.oneCell' = true) {lo hi : Nat} (hlh : lo ≤ hi) (hhi : hi ≤ n) {x : Value}
    (hx : ∀ g cap, v = .slice (some ⟨g, 0, none⟩) n cap → ∃ c, x = .slice (some ⟨g, lo * k, none⟩) (hi - lo) c) (hx0 : v = .slice none 0 0 → ∃ c, x = .slice none 0 c) : Src P k tx x (hi - lo) ((xs.drop (lo * k)).take ((hi - lo) * k)) w := by
  rcases h.forms with ⟨h0, ⟨rfl, rfl, rfl⟩ | ⟨g, cap, cur, rfl, h2, h3, h4, h5, h6, h7⟩⟩
  · obtain ⟨c, rfl⟩ := hx0 rfl
    have e1 : hi - lo = 0 := by omega
    rw [e1]
    simp only [List.drop_nil, List.take_nil]
    exact Src.ofNil w hk c
  · obtain ⟨c, rfl⟩ := hx g cap rfl
    have hmul : lo * k + (hi - lo) * k ≤ n * k := by rw [← Nat.add_mul]; exact Nat.mul_le_mul_right k (by omega)
    refine Src.ofSlice w hk ⟨g, lo * k, none⟩ (hi - lo) c _ (by rw [List.length_take, List.length_drop, h0]; omega) (fun j u hu => ?_) (fun u hu => h1 u (List.mem_of_mem_drop (List.mem_of_mem_take hu)))
    rw [List.getElem?_take] at hu
    split at hu
    · rw [List.getElem?_drop] at hu
      obtain ⟨g', cap', e1, -, -, hc⟩ := h.cell hu
      simp only [Value.slice.injEq, Option.some.injEq, Addr.mk.injEq, and_true, true_and] at e1
      obtain ⟨rfl, -⟩ := e1
      rw [Addr.add_lit]; exact hc
    · cases hu
section
variable {P : Program} {w : World} {o : Oper} {a : Act} {Q : Exit → Act → World → Prop} {K : Act → World → Prop}
theorem wp_appk (s x : Operand) (t tx e : TypeId) (z : Value) (k bytes : Nat) (ho : o.op = .call { callee := .builtin .append, args := #[s, x], argTypes := #[t, tx] }) (ht : P.underlying t = some (.slice e))
    (hi : (P.info? e).map (fun i => (i.zero, i.size, i.bytes)) = some (some z, k, bytes)) (hz : z.cells.size = k)
    {B n m : Nat} {v : Value} {cs : List Value} (hs : a.eval s = v) (hown : OwnK w B e k v n cs) {xv : Value} {news : List Value} (hxv : a.eval x = xv) (hx : Src P k tx xv m news w) (hnl : news.length = m * k)
    (hm : n + m ≤ maxLen) (hb : (2 * (n + m) + 768) * bytes ≤ 281474976710656) (hB : B ≤ w.heap.size)
    (hK : ∀ ad c w', AppOutK w B e k v (n + m) (cs ++ news) (.slice ad (n + m) c) w' → K (a.put o.dst (.slice ad (n + m) c)) w') : Oper.wp P o a w K Q := by
  obtain ⟨v', w', h2, h3⟩ := run_appk (P := P) w t tx o.type e z k bytes ht hi hz hown hx hnl hm hb hB
  unfold Oper.wp execOp
  simp only [ho, resolve, invoke, builtin, Sem.run_bind, Sem.run_pure, Result.andThen_ok, List.map_toArray, List.map_cons, List.map_nil, hs, hxv, h2]
  obtain ⟨ad, c, rfl⟩ := h3.1.slice
  exact hK ad c w' h3
end
end Go.Proofs.YthkbbcdnmdjhdaaGreat
/-! XAppL: A slice of structs that owns its row, as a thing; one appended. No statement about the program. -/
namespace Go.Proofs.YthkbbcdnmdjhdaaGreat
open Go.RowKit

def ownKT (e : TypeId) (k : Nat) (v : Value) (n : Nat) (xs : List Value) : Thing :=
  ⟨fun w T => OwnK w 0 e k v n xs ∧ ∀ b, T b ↔ v.ownBlock = some b, fun h b hb => OwnK.lt h.1 ((h.2 b).1 hb), fun h hc hn => ⟨OwnK.chg h.1 hc fun b hb => hn b ((h.2 b).2 hb), h.2⟩⟩
theorem ownKT.own {w0 w : World} {e : TypeId} {k n : Nat} {v : Value} {xs : List Value} (h : Lab w0 w (ownKT e k v n xs)) : OwnK w 0 e k v n xs := by obtain ⟨T, h, _⟩ := h; exact h.1
theorem ownKT.nil {w0 w : World} {Z : Thing} (e : TypeId) (k : Nat) (h : Lab w0 w Z) : Lab w0 w ((ownKT e k (.slice none 0 0) 0 []).star Z) :=
  h.new (Ext.refl w) (X := ownKT e k (.slice none 0 0) 0 []) (T := fun _ => False) ⟨OwnK.nil _ _ _ _, fun b => ⟨False.elim, fun h => by cases h⟩⟩ fun _ h => h.elim
theorem wp_lappK1 {P : Program} {W w0 : World} {Z : Thing} {o : Oper} {a : Act} {Q : Exit → Act → World → Prop} {K : Act → World → Prop} (s x : Operand) (t e : TypeId) (z : Value) (k bytes : Nat) (ho : o.op = .call { callee := .builtin .append, args := #[s, x], argTypes := #[t, t] }) (ht : P.underlying t = some (.slice e))
    (hi : (P.info? e).map (fun i => (i.zero, i.size, i.bytes)) = some (some z, k, bytes)) (hz : z.cells.size = k) (hby : bytes ≤ 640)
    {xa : Option Addr} {n xc q : Nat} {C : Array Value} {us xs : List Value} (hs : a.eval s = .slice xa n xc) (hx : a.eval x = .slice (some ⟨q, 0, none⟩) 1 1) (hq : q = W.heap.size) (hC : C.toList = us) (hu : us.length = k) (h1 : ∀ u ∈ us, u.oneCell' = true)
    (hL : Lab w0 W ((ownKT e k (.slice xa n xc) n xs).star Z)) (hlen : n ≤ 100000)
    (hK : ∀ ad c w', Lab w0 w' ((ownKT e k (.slice ad (n + 1) c) (n + 1) (xs ++ us)).star Z) → K (a.put o.dst (.slice ad (n + 1) c)) w') : Oper.wp P o a (W.alloc (.cells C e)) K Q := by
  subst hq
  subst hC
  have x6 : Ext W (W.alloc (.cells C e)) := (Ext.refl W).alloc (Nat.le_refl _) _
  have hL2 := hL.ext x6
  have hCs : C.size = 1 * k := by rw [← Array.length_toList, hu, Nat.one_mul]
  have hnew := OwnK.new W e k 1 C hCs (by unfold maxLen; omega)
  have hsrc : Src P k t (.slice (some ⟨W.heap.size, 0, none⟩) 1 1) 1 C.toList (W.alloc (.cells C e)) := by
    have h := OwnK.src (P := P) (tx := t) ht hnew h1 (lo := 0) (hi := 1) (by omega) (Nat.le_refl _) (x := .slice (some ⟨W.heap.size, 0, none⟩) 1 1) (fun g cap hg => by
      simp only [Value.slice.injEq, Option.some.injEq, Addr.mk.injEq, and_true, true_and] at hg
      obtain ⟨rfl, rfl⟩ := hg
      exact ⟨1, by simp⟩) (fun hg => by cases hg)
    simpa [List.take_of_length_le (show C.toList.length ≤ k by omega), Nat.le_of_eq (show C.size = k by omega)] using h
  have hO := ownKT.own hL2.left
  have hb : (2 * (n + 1) + 768) * bytes ≤ 281474976710656 := by
    have : (2 * (n + 1) + 768) * bytes ≤ 200770 * 640 := Nat.mul_le_mul (by omega) hby
    omega
  refine wp_appk (B := 0) s x t t e z k bytes ho ht hi hz hs hO hx hsrc (by rw [hu, Nat.one_mul]) (by unfold maxLen; omega) hb (Nat.zero_le _) fun ad c w' ⟨h1, h2, h3⟩ => hK ad c w' (hL2.made fun T hT => ⟨(Chg.refl T _).grown h2 fun k hk => .inl ((hT.2 k).2 hk), fun b => (Value.slice ad (n + 1) c).ownBlock = some b, fun b hb => ?_, h1, fun _ => Iff.rfl⟩)
  rcases h3 with h3 | ⟨k, h3, h4⟩
  · rw [h3] at hb; exact .inl ((hT.2 b).2 hb)
  · rw [h3] at hb; cases hb; exact .inr ⟨h4, h1.lt h3⟩
/-- Rows of k cells each, one after the other. -/
theorem flat_at {α : Type} {k : Nat} (g : Nat → List α) (hg : ∀ j, (g j).length = k) : ∀ (i j q : Nat), j < i → q < k → ((List.range i).flatMap g)[j * k + q]? = (g j)[q]?
  | 0, _, _, h, _ => absurd h (Nat.not_lt_zero _)
  | i + 1, j, q, hj, hq => by
    have hlen : ∀ i, ((List.range i).flatMap g).length = i * k := fun i => by
      induction i with
      | zero => simp
      | succ i ih => rw [List.range_succ, List.flatMap_append, List.length_append, ih]; simp [hg, Nat.succ_mul]
    rw [List.range_succ, List.flatMap_append, List.getElem?_append, hlen]
    by_cases e : j < i
    · have h2 : j * k + q < i * k := by
        have : j * k + k ≤ i * k := by rw [← Nat.succ_mul]; exact Nat.mul_le_mul_right k e
        omega
      rw [if_pos h2, flat_at g hg i j q e hq]
    · obtain rfl : j = i := by omega
      rw [if_neg (by omega)]
      have : j * k + q - j * k = q := by omega
      rw [this]
      simp
theorem flat_succ {α : Type} (g : Nat → List α) (i : Nat) : (List.range (i + 1)).flatMap g = (List.range i).flatMap g ++ g i := by
  rw [List.range_succ, List.flatMap_append]; simp
end Go.Proofs.YthkbbcdnmdjhdaaGreat
/-! XDkP: Disks as lists of files by rising paths: what is read, put, taken away; and what a disk answers. No program in sight. -/
namespace Go.Proofs.YthkbbcdnmdjhdaaGreat.Dk
open Go

abbrev Path := List UInt8
/-- What stands at paths, the paths rising. -/
abbrev L (α : Type) := List (Path × α)
section
variable {α β : Type}
def get (p : Path) (l : L α) : Option α := (l.find? fun e => e.1 == p).map (·.2)
def del (p : Path) (l : L α) : L α := l.filter fun e => !(e.1 == p)
def ins (p : Path) (x : α) : L α → L α
  | [] => [(p, x)]
  | y :: r => if bytesBefore p y.1 then (p, x) :: y :: r else y :: ins p x r
def put (p : Path) (x : α) (l : L α) : L α := ins p x (del p l)
def Up (l : L α) : Prop := l.Pairwise fun a b => bytesBefore a.1 b.1 = true
def mapv (f : α → β) (l : L α) : L β := l.map fun e => (e.1, f e.2)

theorem before_ne {a b : Path} (h : bytesBefore a b = true) : a ≠ b := fun e => by
  rw [e, WideAt.bytes_irrefl] at h; cases h
theorem before_not {a b : Path} (h : bytesBefore a b = true) : bytesBefore b a = false := by
  cases e : bytesBefore b a
  · rfl
  · have := WideShapes.bytes_trans _ _ _ h e
    rw [WideAt.bytes_irrefl] at this; cases this

theorem get_none {p : Path} {l : L α} (h : ∀ e ∈ l, e.1 ≠ p) : get p l = none := by
  unfold get
  rw [List.find?_eq_none.2 (fun e he => by simpa using h e he)]; rfl
theorem get_cons (p : Path) (e : Path × α) (l : L α) : get p (e :: l) = if e.1 = p then some e.2 else get p l := by
  unfold get
  rw [List.find?_cons]
  by_cases h : e.1 = p
  · simp [h]
  · have h2 : (e.1 == p) = false := by simpa using h
    rw [if_neg h, h2]
theorem get_mem {p : Path} {l : L α} {x : α} (h : get p l = some x) : (p, x) ∈ l := by
  induction l with
  | nil => cases h
  | cons e l ih =>
    rw [get_cons] at h
    split at h
    · rename_i he
      cases h
      rw [← he]; exact List.mem_cons_self
    · exact List.mem_cons_of_mem _ (ih h)
theorem Up.nil : Up ([] : L α) := List.Pairwise.nil
theorem Up.tail {e : Path × α} {l : L α} (h : Up (e :: l)) : Up l := (List.pairwise_cons.1 h).2
theorem Up.head {e : Path × α} {l : L α} (h : Up (e :: l)) : ∀ x ∈ l, bytesBefore e.1 x.1 = true := (List.pairwise_cons.1 h).1
theorem get_of_mem {l : L α} (hu : Up l) {p : Path} {x : α} (h : (p, x) ∈ l) : get p l = some x := by
  induction l with
  | nil => cases h
  | cons e l ih =>
    rw [get_cons]
    rcases List.mem_cons.1 h with rfl | h
    · rw [if_pos rfl]
    · rw [if_neg (before_ne (hu.head _ h)), ih hu.tail h]
theorem mem_iff {l : L α} (hu : Up l) {p : Path} {x : α} : (p, x) ∈ l ↔ get p l = some x := ⟨get_of_mem hu, get_mem⟩
/-- Two at one path are one. -/
theorem Up.one {l : L α} (hu : Up l) {e e' : Path × α} (h : e ∈ l) (h' : e' ∈ l) (hp : e.1 = e'.1) : e = e' := by
  have h1 := get_of_mem hu (p := e.1) (x := e.2) h
  have h2 := get_of_mem hu (p := e'.1) (x := e'.2) h'
  rw [← hp, h1] at h2
  exact Prod.ext hp (Option.some.inj h2)

theorem del_up {l : L α} (h : Up l) (p : Path) : Up (del p l) := List.Pairwise.sublist List.filter_sublist h
theorem mem_del {l : L α} {p : Path} {e : Path × α} : e ∈ del p l ↔ e ∈ l ∧ e.1 ≠ p := by
  unfold del; simp
theorem del_cons (p : Path) (e : Path × α) (l : L α) : del p (e :: l) = if e.1 = p then del p l else e :: del p l := by
  unfold del
  rw [List.filter_cons]
  by_cases h : e.1 = p <;> simp [h]
theorem del_none {l : L α} {p : Path} (h : ∀ e ∈ l, e.1 ≠ p) : del p l = l := by
  unfold del
  exact List.filter_eq_self.2 fun e he => by simpa using h e he
theorem mem_ins {p : Path} {x : α} {e : Path × α} : ∀ {l : L α}, e ∈ ins p x l ↔ e = (p, x) ∨ e ∈ l
  | [] => by simp [ins]
  | y :: l => by
    unfold ins
    split
    · simp
    · rw [List.mem_cons, mem_ins, List.mem_cons]
      constructor
      · rintro (h | h | h)
        · exact .inr (.inl h)
        · exact .inl h
        · exact .inr (.inr h)
      · rintro (h | h | h)
        · exact .inr (.inl h)
        · exact .inl h
        · exact .inr (.inr h)
theorem ins_up {p : Path} {x : α} : ∀ {l : L α}, Up l → (∀ e ∈ l, e.1 ≠ p) → Up (ins p x l)
  | [], _, _ => by unfold ins; exact List.pairwise_singleton _ _
  | y :: l, h, hn => by
    unfold ins
    split
    · rename_i hb
      refine List.pairwise_cons.2 ⟨fun e he => ?_, h⟩
      rcases List.mem_cons.1 he with rfl | he
      · exact hb
      · exact WideShapes.bytes_trans _ _ _ hb (h.head _ he)
    · rename_i hb
      refine List.pairwise_cons.2 ⟨fun e he => ?_, ins_up h.tail fun e he => hn e (List.mem_cons_of_mem _ he)⟩
      rcases mem_ins.1 he with rfl | he
      · rcases WideAt.bytes_total y.1 p (hn y List.mem_cons_self) with h1 | h1
        · exact h1
        · exact absurd h1 hb
      · exact h.head _ he
theorem put_up {p : Path} {x : α} {l : L α} (h : Up l) : Up (put p x l) := ins_up (del_up h p) fun _ he => (mem_del.1 he).2
theorem mem_put {p : Path} {x : α} {l : L α} {e : Path × α} : e ∈ put p x l ↔ e = (p, x) ∨ (e ∈ l ∧ e.1 ≠ p) := by
  unfold put; rw [mem_ins, mem_del]
theorem get_ext {l k : L α} (hl : Up l) (hk : Up k) (h : ∀ p, get p l = get p k) : l = k := by
  induction l generalizing k with
  | nil =>
    cases k with
    | nil => rfl
    | cons e k =>
      have := h e.1
      rw [get_cons, if_pos rfl] at this
      cases this
  | cons e l ih =>
    cases k with
    | nil =>
      have := h e.1
      rw [get_cons, if_pos rfl] at this
      cases this
    | cons e' k =>
      have hp : e.1 = e'.1 := by
        by_cases hp : e.1 = e'.1
        · exact hp
        · exfalso
          have h1 := h e.1
          rw [get_cons, if_pos rfl, get_cons, if_neg (fun x => hp x.symm)] at h1
          have h2 := h e'.1
          rw [get_cons, if_neg hp, get_cons, if_pos rfl] at h2
          have m1 := get_mem h1.symm
          have m2 := get_mem h2
          have b1 := hk.head _ m1
          have b2 := hl.head _ m2
          rw [before_not b1] at b2
          cases b2
      have h1 := h e.1
      rw [get_cons, if_pos rfl, get_cons, if_pos hp.symm] at h1
      have he : e = e' := Prod.ext hp (Option.some.inj h1)
      subst he
      rw [ih hl.tail hk.tail fun p => ?_]
      by_cases hpe : e.1 = p
      · have n1 : ∀ x ∈ l, x.1 ≠ p := fun x hx => by rw [← hpe]; exact (before_ne (hl.head _ hx)).symm
        have n2 : ∀ x ∈ k, x.1 ≠ p := fun x hx => by rw [← hpe]; exact (before_ne (hk.head _ hx)).symm
        rw [get_none n1, get_none n2]
      · have := h p
        rw [get_cons, get_cons, if_neg hpe, if_neg hpe] at this
        exact this
theorem get_del {l : L α} (p q : Path) : get q (del p l) = if p = q then none else get q l := by
  induction l with
  | nil => simp [del, get]
  | cons e l ih =>
    rw [del_cons]
    by_cases h : e.1 = p
    · rw [if_pos h, ih, get_cons]
      by_cases h2 : p = q
      · rw [if_pos h2, if_pos h2]
      · rw [if_neg h2, if_neg h2, if_neg (fun x => h2 (h.symm.trans x))]
    · rw [if_neg h, get_cons, ih, get_cons]
      by_cases h2 : p = q
      · rw [if_pos h2, if_neg (fun x => h (x.trans h2.symm)), if_pos h2]
      · rw [if_neg h2, if_neg h2]
theorem get_put {l : L α} (hu : Up l) (p q : Path) (x : α) : get q (put p x l) = if p = q then some x else get q l := by
  by_cases h : p = q
  · subst h
    rw [if_pos rfl, get_of_mem (put_up hu) (mem_put.2 (.inl rfl))]
  · rw [if_neg h]
    cases hg : get q l with
    | some y => exact get_of_mem (put_up hu) (mem_put.2 (.inr ⟨get_mem hg, fun e => h e.symm⟩))
    | none =>
      refine get_none fun e he => ?_
      rcases mem_put.1 he with rfl | ⟨he, -⟩
      · exact h
      · intro e1
        have := get_of_mem hu (p := e.1) (x := e.2) he
        rw [e1, hg] at this
        cases this
/-! ### seen through a function -/
theorem get_mapv (f : α → β) (p : Path) (l : L α) : get p (mapv f l) = (get p l).map f := by
  induction l with
  | nil => rfl
  | cons e l ih =>
    show get p ((e.1, f e.2) :: mapv f l) = _
    rw [get_cons, get_cons, ih]
    by_cases h : e.1 = p
    · rw [if_pos h, if_pos h]; rfl
    · rw [if_neg h, if_neg h]
theorem del_mapv (f : α → β) (p : Path) (l : L α) : del p (mapv f l) = mapv f (del p l) := by
  induction l with
  | nil => rfl
  | cons e l ih =>
    show del p ((e.1, f e.2) :: mapv f l) = _
    rw [del_cons, del_cons, ih]
    by_cases h : e.1 = p
    · rw [if_pos h, if_pos h]
    · rw [if_neg h, if_neg h]; rfl
theorem ins_mapv (f : α → β) (p : Path) (x : α) : ∀ l : L α, ins p (f x) (mapv f l) = mapv f (ins p x l)
  | [] => rfl
  | e :: l => by
    show ins p (f x) ((e.1, f e.2) :: mapv f l) = _
    unfold ins
    split
    · rfl
    · rw [ins_mapv f p x l]; rfl
theorem put_mapv (f : α → β) (p : Path) (x : α) (l : L α) : put p (f x) (mapv f l) = mapv f (put p x l) := by
  unfold put; rw [del_mapv, ins_mapv]
theorem Up.mapv {l : L α} (h : Up l) (f : α → β) : Up (mapv f l) := by
  unfold Dk.mapv
  exact List.pairwise_map.2 h
theorem Up.of_mapv {l : L α} {f : α → β} (h : Up (Dk.mapv f l)) : Up l := List.pairwise_map.1 h
theorem mapv_length (f : α → β) (l : L α) : (mapv f l).length = l.length := List.length_map _
theorem mem_mapv {f : α → β} {l : L α} {e : Path × α} (h : e ∈ l) : (e.1, f e.2) ∈ mapv f l := List.mem_map.2 ⟨e, h, rfl⟩
theorem ins_length (p : Path) (x : α) : ∀ l : L α, (ins p x l).length = l.length + 1
  | [] => rfl
  | e :: l => by
    unfold ins
    split
    · rfl
    · rw [List.length_cons, ins_length p x l, List.length_cons]
theorem del_length {l : L α} (hu : Up l) (p : Path) : (del p l).length + (if (get p l).isSome then 1 else 0) = l.length := by
  induction l with
  | nil => rfl
  | cons e l ih =>
    have := ih hu.tail
    rw [del_cons, get_cons]
    by_cases h : e.1 = p
    · have hn : ∀ x ∈ l, x.1 ≠ p := fun x hx => by rw [← h]; exact (before_ne (hu.head _ hx)).symm
      rw [if_pos h, if_pos h, del_none hn]; simp
    · rw [if_neg h, if_neg h]; simp only [List.length_cons]; omega
theorem put_length {l : L α} (hu : Up l) (p : Path) (x : α) : (put p x l).length = if (get p l).isSome then l.length else l.length + 1 := by
  unfold put
  rw [ins_length]
  have := del_length hu p
  split at this <;> rename_i h
  · rw [if_pos h]; omega
  · rw [if_neg h]; omega
end

/-! ### as a map's datum -/
def Dm (l : L Nat) : DataW Unit := .map (l.map fun e => (.string e.1, .lit (.int .i64 e.2)))
theorem same_string (a b : Path) : (Lit.string a).sameKey (.string b) = (a == b) := rfl
theorem Dm_has (l : L Nat) (p : Path) : Maps.has (Dm l) (.string p) = (get p l).isSome := by
  show List.any _ _ = _
  rw [List.any_map]
  induction l with
  | nil => rfl
  | cons e l ih =>
    rw [List.any_cons, get_cons, ih]
    by_cases h : e.1 = p
    · simp [h, same_string]
    · simp [h, same_string]
theorem atKey_map (es : List (Lit × DataW Unit)) (k : Lit) (z : DataW Unit) : (DataW.map es).atKey k z = ((es.find? fun x => x.1.sameKey k).map (·.2)).getD z := by
  simp only [DataW.atKey]
  cases h : es.find? fun x => x.1.sameKey k <;> simp
theorem Dm_at (l : L Nat) (p : Path) (z : DataW Unit) : (Dm l).atKey (.string p) z = match get p l with | some q => .lit (.int .i64 q) | none => z := by
  unfold Dm
  rw [atKey_map]
  induction l with
  | nil => rfl
  | cons e l ih =>
    rw [List.map_cons, List.find?_cons, get_cons]
    by_cases h : e.1 = p
    · have h2 : ((Lit.string e.1).sameKey (.string p)) = true := by rw [same_string]; simpa using h
      rw [if_pos h, h2]; rfl
    · have h2 : ((Lit.string e.1).sameKey (.string p)) = false := by rw [same_string]; simpa using h
      rw [if_neg h, h2]
      exact ih
theorem filter_string (l : L Nat) (p : Path) : (l.map fun e => ((Lit.string e.1, DataW.lit (H := Unit) (.int .i64 e.2)))).filter (fun x => !x.1.sameKey (.string p)) = (del p l).map fun e => (.string e.1, .lit (.int .i64 e.2)) := by
  induction l with
  | nil => rfl
  | cons e l ih =>
    rw [List.map_cons, List.filter_cons, del_cons, ih]
    by_cases h : e.1 = p
    · simp [h, same_string]
    · simp [h, same_string]
theorem Dm_del (l : L Nat) (p : Path) : (Dm l).del (.string p) = Dm (del p l) := by
  show DataW.map _ = DataW.map _
  rw [filter_string]
theorem insert_string (p : Path) (q : Nat) : ∀ l : L Nat, DataW.insert (.string p, .lit (.int .i64 q)) (l.map fun e => ((Lit.string e.1, DataW.lit (H := Unit) (.int .i64 e.2)))) = (ins p q l).map fun e => (.string e.1, .lit (.int .i64 e.2))
  | [] => rfl
  | e :: l => by
    rw [List.map_cons]
    unfold DataW.insert ins
    show (if bytesBefore p e.1 = true then _ else _) = _
    split
    · rfl
    · rw [insert_string p q l]; rfl
theorem Dm_put (l : L Nat) (p : Path) (q : Nat) : (Dm l).put (.string p) (.lit (.int .i64 q)) = Dm (put p q l) := by
  show DataW.map _ = DataW.map _
  rw [filter_string, insert_string]; rfl
theorem Dm_size (l : L Nat) : Maps.size (Dm l) = l.length := List.length_map _

/-! ### a disk -/
/-- A file: its bytes, and whether it is synced. -/
structure Fil where
  b : List UInt8
  sure : Bool
/-- A disk: how many bytes it takes, whether it is off, how many operations are still to fail, its files. -/
structure DS where
  most : Nat
  off : Bool
  bad : Nat
  fs : L Fil
/-- A fuse: behind how many it blows, how many there were, whether it is blown. -/
structure FS where
  n : Int
  ops : Nat
  blown : Bool
def tot (l : L Fil) : Nat := (l.map fun e => e.2.b.length).sum
def olen (p : Path) (l : L Fil) : Nat := match get p l with | some f => f.b.length | none => 0
theorem tot_cons (e : Path × Fil) (l : L Fil) : tot (e :: l) = e.2.b.length + tot l := by unfold tot; rw [List.map_cons, List.sum_cons]
theorem tot_ins (p : Path) (x : Fil) : ∀ l : L Fil, tot (ins p x l) = x.b.length + tot l
  | [] => rfl
  | e :: l => by
    unfold ins
    split
    · rw [tot_cons]
    · rw [tot_cons, tot_ins p x l, tot_cons]; omega
theorem tot_del {l : L Fil} (hu : Up l) (p : Path) : tot (del p l) + olen p l = tot l := by
  induction l with
  | nil => rfl
  | cons e l ih =>
    have h1 := ih hu.tail
    unfold olen at h1 ⊢
    rw [del_cons, get_cons]
    by_cases h : e.1 = p
    · have hn : ∀ x ∈ l, x.1 ≠ p := fun x hx => by rw [← h]; exact (before_ne (hu.head _ hx)).symm
      rw [if_pos h, if_pos h, del_none hn, tot_cons]; simp only; omega
    · rw [if_neg h, if_neg h, tot_cons, tot_cons]; omega
theorem tot_put {l : L Fil} (hu : Up l) (p : Path) (x : Fil) : tot (put p x l) + olen p l = x.b.length + tot l := by
  unfold put
  rw [tot_ins]
  have := tot_del hu p
  omega
theorem tot_mem {l : L Fil} {e : Path × Fil} (h : e ∈ l) : e.2.b.length ≤ tot l := by
  induction l with
  | nil => cases h
  | cons x l ih =>
    rw [tot_cons]
    rcases List.mem_cons.1 h with rfl | h
    · omega
    · have := ih h; omega
theorem olen_le (p : Path) (l : L Fil) : olen p l ≤ tot l := by
  unfold olen
  split
  · rename_i f hf; exact tot_mem (get_mem hf)
  · omega

def okP (p : Path) : Bool := decide (1 ≤ p.length ∧ p.length ≤ 600)
/-- The fuse counts an operation: is it done? -/
def ticks : Option FS → Bool × Option FS
  | none => (true, none)
  | some z => if z.blown then (false, some z) else (true, some ⟨z.n, z.ops + 1, decide (0 < z.n ∧ z.n ≤ (z.ops : Int) + 1)⟩)
/-- An operation begins: the error's number; the fuse, the disk behind it. -/
def begins (z : Option FS) (d : DS) (ps : List Path) : Nat × Option FS × DS :=
  if (ticks z).1 = false then (20, (ticks z).2, d)
  else if d.off then (10, (ticks z).2, d)
  else if 0 < d.bad then (9, (ticks z).2, { d with bad := d.bad - 1 })
  else if ps.all okP then (0, (ticks z).2, d)
  else (1, (ticks z).2, d)
end Go.Proofs.YthkbbcdnmdjhdaaGreat.Dk
/-! XDkA: A disk in memory: its block, its map, its files. No walk. -/
namespace Go.Proofs.YthkbbcdnmdjhdaaGreat
open Go.RowKit Dk Go.WideShapes Go.ChangeMaps Go.MapKept
set_option maxRecDepth 100000
set_option maxHeartbeats 1000000

/-- How a pointer to a file reads as a map's element: by its block. -/
def Rq (v : Value) : Option (DataW Unit × List MemPlace) :=
  match v with
  | .pointer (some a) => if a = ⟨a.block, 0, none⟩ then some (.lit (.int .i64 a.block), []) else none
  | .pointer none => some (.lit (.bool false), [])
  | _ => none
theorem Rq_mk (q : Nat) : Rq (.pointer (some ⟨q, 0, none⟩)) = some (.lit (.int .i64 q), []) := by unfold Rq; simp
theorem Rq_inv {v : Value} {q : Nat} {ps : List MemPlace} (h : Rq v = some (.lit (.int .i64 q), ps)) : v = .pointer (some ⟨q, 0, none⟩) := by
  unfold Rq at h
  split at h
  · split at h
    · rename_i a he
      simp only [Option.some.injEq, Prod.mk.injEq, DataW.lit.injEq, Lit.int.injEq, true_and] at h
      have hb : a.block = q := by omega
      rw [he, hb]
    · cases h
  · simp at h
  · cases h
theorem Rq_nil {v : Value} {ps : List MemPlace} (h : Rq v = some (.lit (.bool false), ps)) : v = .pointer none := by
  unfold Rq at h
  split at h
  · split at h
    · simp at h
    · cases h
  · rfl
  · cases h
theorem Rq_form {v : Value} {y : DataW Unit × List MemPlace} (h : Rq v = some y) : (∃ q : Nat, v = .pointer (some ⟨q, 0, none⟩)) ∨ v = .pointer none := by
  unfold Rq at h
  split at h
  · split at h
    · rename_i a he
      exact .inl ⟨a.block, by rw [← he]⟩
    · cases h
  · exact .inr rfl
  · cases h
/-- The paths of a disk's files. -/
def paths {α : Type} (l : L α) : List Path := l.map (·.1)
def having (p : Path) (ps : List Path) : List Path := ps.filter fun x => p.isPrefixOf x
namespace Dk
/-- What a list tells. -/
def lists (z : Option FS) (d : DS) (p : Path) : List Path := if (begins z d []).1 = 0 then (paths d.fs).filter (fun x => p.isPrefixOf x) else []
end Dk
theorem kstr : Go.Maps.Keyed Tryz.prog 9 := Go.Maps.string_keyed Tryz.underlying9
theorem keystr (p : Path) (h : p.length ≤ maxLen) : keyOf Tryz.prog 9 (.string (bstr p)) = some (.string p) := WideMaps.keyOf_string_mk Tryz.underlying9 (s := bstr p) h
theorem zfile (w : World) : (zeroValue 171).run Tryz.prog w = .ok (.pointer none) w := by kernel_rfl

/-- Block m is a map from these paths to these files' blocks. -/
def FMap (w : World) (m : Nat) (l : L Nat) : Prop := w.ownsMap Tryz.prog 9 Rq m l.length (Dm l)
theorem ownsMap.tight {w : World} {m n : Nat} {l : L Nat} (h : w.ownsMap Tryz.prog 9 Rq m n (Dm l)) : FMap w m l := by
  obtain ⟨es, clock, hb, F, hs, hD⟩ := h
  refine ⟨es, clock, hb, F, ?_, hD⟩
  have h1 : Maps.size (Dm l) = Maps.size (DataW.map ((es.toList.map (Go.WideElems.rg Tryz.prog 9 Rq)).foldr DataW.insert [])) := by rw [← hD]
  rw [Dm_size] at h1
  have h2 : (DataW.map ((es.toList.map (Go.WideElems.rg Tryz.prog 9 Rq)).foldr DataW.insert [])) = .map ((es.toList.map (Go.WideElems.rg Tryz.prog 9 Rq)).foldr DataW.insert []) := rfl
  rw [Maps.size_eq, length_sorted] at h1
  simp at h1
  omega
theorem FMap.made (w : World) : FMap (w.alloc (.map #[] 0)) w.heap.size [] := World.ownsMap_made w Tryz.prog 9 Rq
theorem FMap.lt {w : World} {m : Nat} {l : L Nat} (h : FMap w m l) : m < w.heap.size := World.ownsMap.lt h
theorem FMap.blk {w : World} {m : Nat} {l : L Nat} (h : FMap w m l) : ∃ es clock, w.heap[m]? = some (.map es clock) := by obtain ⟨es, clock, hb, _⟩ := h; exact ⟨es, clock, hb⟩
theorem FMap.ne {w : World} {m b : Nat} {l : L Nat} {e : TypeId} {cs : Array Value} (h : FMap w m l) (k : Row w b e cs) : b ≠ m := fun x => by
  subst x
  obtain ⟨es, clock, hb⟩ := h.blk
  unfold Row at k
  rw [hb] at k; cases k
theorem FMap.chg {S : Nat → Prop} {w w' : World} {m : Nat} {l : L Nat} (h : FMap w m l) (k : Chg S w w') (hn : ¬ S m) : FMap w' m l := by
  have hlt := h.lt
  obtain ⟨es, clock, hb, F, hs, hD⟩ := h
  exact ⟨es, clock, (k.block m hlt hn).trans hb, F, hs, hD⟩
theorem FMap.look {w : World} {m : Nat} {l : L Nat} (h : FMap w m l) (p : Path) (hp : p.length ≤ maxLen) :
    (Instr.lookup 112 (.map (some m)) (.string (bstr p)) true).run Tryz.prog w = .ok (.tuple #[match get p l with | some q => .pointer (some ⟨q, 0, none⟩) | none => .pointer none, .bool (get p l).isSome]) w := by
  obtain ⟨v, ps, h1, h2⟩ := World.ownsMap.look_ok h kstr Tryz.underlying112 (zfile w) (zd := .lit (.bool false)) (zp := []) rfl (keystr p hp)
  rw [Dm_has] at h1
  rw [Dm_at] at h2
  rw [h1]
  cases hg : get p l with
  | some q =>
    rw [hg] at h2
    rw [Rq_inv h2]
  | none =>
    rw [hg] at h2
    rw [Rq_nil h2]
theorem FMap.put {w : World} {m : Nat} {l : L Nat} (h : FMap w m l) (p : Path) (hp : p.length ≤ maxLen) (q : Nat) (hl : l.length < 100000) :
    ∃ w', (Instr.mapUpdate 112 (.map (some m)) (.string (bstr p)) (.pointer (some ⟨q, 0, none⟩))).run Tryz.prog w = .ok () w' ∧ FMap w' m (Dk.put p q l) ∧ w.grownBy w' (some m) ∧ w'.heap.size = w.heap.size := by
  obtain ⟨es, clock, hb, F, hs, hD⟩ := id h
  obtain ⟨w', h1, h2, h3⟩ := World.ownsMap.update h kstr Tryz.underlying112 (by unfold maxLen; omega) (keystr p hp) (Rq_mk q)
  rw [Dm_put] at h2
  refine ⟨w', h1, ownsMap.tight h2, h3, ?_⟩
  obtain ⟨es', clock', hrun, -⟩ := Maps.fit_store (R' := Rq) kstr Tryz.underlying112 hb F (by unfold maxLen; omega) (fun _ _ _ _ hz => hz) (keystr p hp) (Rq_mk q)
  rw [hrun] at h1
  injection h1 with _ h1
  rw [← h1]
  simp [setBlock]
theorem FMap.del {w : World} {m : Nat} {l : L Nat} (h : FMap w m l) (p : Path) (hp : p.length ≤ maxLen) (ty : TypeId) :
    ∃ w', (Builtin.delete_ #[112, 9] ty #[.map (some m), .string (bstr p)]).run Tryz.prog w = .ok (.tuple #[]) w' ∧ FMap w' m (Dk.del p l) ∧ w.grownBy w' (some m) ∧ w'.heap.size = w.heap.size := by
  obtain ⟨w', h1, h2, h3⟩ := World.ownsMap.drop h kstr Tryz.underlying112 (keystr p hp) ty
  rw [Dm_del] at h2
  refine ⟨w', h1, ownsMap.tight h2, h3.grown, ?_⟩
  obtain ⟨es, clock, es', clock', -, rfl⟩ := h3
  simp [setBlock]

/-- A file in memory: its block, its slice; what it is. -/
structure Ent where
  q : Nat
  v : Value
  f : Fil
def FileAt (w : World) (e : Ent) : Prop := Row w e.q 174 #[e.v, .bool e.f.sure] ∧ Own w 0 5 e.v (bvs e.f.b)
theorem FileAt.chg {S : Nat → Prop} {w w' : World} {e : Ent} (h : FileAt w e) (k : Chg S w w') (hq : ¬ S e.q) (hv : ∀ b, e.v.ownBlock = some b → ¬ S b) : FileAt w' e := ⟨h.1.chg k hq, h.2.chg k hv⟩
def EApart (e e' : Ent) : Prop := e.q ≠ e'.q ∧ (e.v.ownBlock = none ∨ e.v.ownBlock ≠ e'.v.ownBlock)
def qs (l : L Ent) : L Nat := mapv (·.q) l
def fils (l : L Ent) : L Fil := mapv (·.f) l
def fptr (fp : Option Nat) : Value := .pointer (fp.map fun b => ⟨b, 0, none⟩)
/-- The blocks of a disk. -/
def Foot (s m : Nat) (es : L Ent) (b : Nat) : Prop := b = s ∨ b = m ∨ ∃ e ∈ es, b = e.2.q ∨ e.2.v.ownBlock = some b
/-- A disk in memory. -/
structure Raw (w : World) (s : Nat) (fp : Option Nat) (m : Nat) (es : L Ent) (d : DS) : Prop where
  row : Row w s 114 #[.int .i64 d.most, fptr fp, .map (some m), .bool d.off, .int .i64 d.bad]
  map : FMap w m (qs es)
  up : Up es
  file : ∀ e ∈ es, FileAt w e.2
  apart : ∀ e ∈ es, ∀ e' ∈ es, e.1 ≠ e'.1 → EApart e.2 e'.2
  fs : d.fs = fils es
  nb : d.bad ≤ 9223372036854775807
  nm : d.most ≤ 4194304
/-- A disk all of whose blocks are in S; the fuse is not. -/
def SimAt (w : World) (s : Nat) (fp : Option Nat) (d : DS) (S : Nat → Prop) : Prop := ∃ m es, Raw w s fp m es d ∧ (∀ b, Foot s m es b → S b) ∧ (∀ b, S b → b < w.heap.size) ∧ (∀ b, fp = some b → ¬ S b)
/-- The fuse in memory. -/
def FzAt (w : World) : Option Nat → Option FS → Prop
  | none, none => True
  | some b, some z => Row w b 139 #[.int .i64 z.n, .int .i64 z.ops, .bool z.blown] ∧ -9223372036854775808 ≤ z.n ∧ z.n ≤ 9223372036854775807
  | _, _ => False
theorem FzAt.chg {S : Nat → Prop} {w w' : World} {fp : Option Nat} {z : Option FS} (h : FzAt w fp z) (k : Chg S w w') (hn : ∀ b, fp = some b → ¬ S b) : FzAt w' fp z := by
  cases fp with
  | none => cases z with
    | none => trivial
    | some z => exact h
  | some b => cases z with
    | none => exact h
    | some z => exact ⟨h.1.chg k (hn b rfl), h.2⟩
theorem qs_get (es : L Ent) (p : Path) : get p (qs es) = (get p es).map (·.q) := get_mapv _ _ _
theorem fils_get (es : L Ent) (p : Path) : get p (fils es) = (get p es).map (·.f) := get_mapv _ _ _
theorem Raw.chg {S : Nat → Prop} {w w' : World} {s m : Nat} {fp : Option Nat} {es : L Ent} {d : DS} (h : Raw w s fp m es d) (k : Chg S w w') (hn : ∀ b, Foot s m es b → ¬ S b) : Raw w' s fp m es d :=
  ⟨h.row.chg k (hn s (.inl rfl)), h.map.chg k (hn m (.inr (.inl rfl))), h.up,
   fun e he => (h.file e he).chg k (hn _ (.inr (.inr ⟨e, he, .inl rfl⟩))) (fun b hb => hn b (.inr (.inr ⟨e, he, .inr hb⟩))), h.apart, h.fs, h.nb, h.nm⟩
theorem SimAt.chg {S T : Nat → Prop} {w w' : World} {s : Nat} {fp : Option Nat} {d : DS} (h : SimAt w s fp d S) (k : Chg T w w') (hn : ∀ b, S b → ¬ T b) : SimAt w' s fp d S := by
  obtain ⟨m, es, h1, h2, h3, h4⟩ := h
  exact ⟨m, es, h1.chg k fun b hb => hn b (h2 b hb), h2, fun b hb => Nat.lt_of_lt_of_le (h3 b hb) k.size, h4⟩
theorem SimAt.ext {S : Nat → Prop} {w w' : World} {s : Nat} {fp : Option Nat} {d : DS} (h : SimAt w s fp d S) (k : Ext w w') : SimAt w' s fp d S := h.chg (Chg.of_ext k fun _ => False) fun _ _ h => h
theorem SimAt.mono {S T : Nat → Prop} {w : World} {s : Nat} {fp : Option Nat} {d : DS} (h : SimAt w s fp d S) (hS : ∀ b, S b → T b) (hT : ∀ b, T b → b < w.heap.size) (hf : ∀ b, fp = some b → ¬ T b) : SimAt w s fp d T := by
  obtain ⟨m, es, h1, h2, h3, h4⟩ := h
  exact ⟨m, es, h1, fun b hb => hS b (h2 b hb), hT, hf⟩
/-- What is written outside the disk. -/
theorem Raw.foot_lt {w : World} {s m : Nat} {fp : Option Nat} {es : L Ent} {d : DS} (h : Raw w s fp m es d) {b : Nat} (hb : Foot s m es b) : b < w.heap.size := by
  rcases hb with rfl | rfl | ⟨e, he, rfl | hv⟩
  · exact h.row.lt
  · exact h.map.lt
  · exact (h.file e he).1.lt
  · exact (h.file e he).2.lt hv
theorem ty_sim_fuse : 114 ≠ 139 := by decide
theorem ty_file_fuse : 174 ≠ 139 := by decide
theorem ty_byte_fuse : 5 ≠ 139 := by decide
theorem ty_sim_file : 114 ≠ 174 := by decide
theorem ty_sim_byte : 114 ≠ 5 := by decide
theorem ty_file_byte : 174 ≠ 5 := by decide
theorem Own.ne {w : World} {B c : Nat} {e f : TypeId} {v : Value} {cs : List Value} {ds : Array Value} (h : Own w B e v cs) (k : Row w c f ds) (hef : e ≠ f) : v.ownBlock ≠ some c := fun x => by
  obtain ⟨cur, hr⟩ := h.row x
  exact hr.ne k hef rfl
theorem FMap.own {w : World} {B m : Nat} {e : TypeId} {v : Value} {cs : List Value} {l : L Nat} (h : FMap w m l) (k : Own w B e v cs) : v.ownBlock ≠ some m := fun x => by
  obtain ⟨cur, hr⟩ := k.row x
  exact h.ne hr rfl
/-- A row of another kind is none of a disk's blocks. -/
theorem Raw.other {w : World} {s m b : Nat} {fp : Option Nat} {es : L Ent} {d : DS} {f : TypeId} {ds : Array Value} (h : Raw w s fp m es d) (k : Row w b f ds) (h1 : 114 ≠ f) (h2 : 174 ≠ f) (h3 : 5 ≠ f) : ¬ Foot s m es b := by
  rintro (rfl | rfl | ⟨e, he, rfl | hv⟩)
  · exact h.row.ne k h1 rfl
  · exact h.map.ne k rfl
  · exact (h.file e he).1.ne k h2 rfl
  · exact (h.file e he).2.ne k h3 hv
theorem Raw.fuse {w : World} {s m : Nat} {fp : Option Nat} {es : L Ent} {d : DS} {z : Option FS} (h : Raw w s fp m es d) (hz : FzAt w fp z) (b : Nat) (hb : Foot s m es b) : fp ≠ some b := fun e => by
  subst e
  cases z with
  | none => exact hz
  | some z => exact h.other hz.1 ty_sim_fuse ty_file_fuse ty_byte_fuse hb
/-- The disk's own block is none of its files'. -/
theorem Raw.sim {w : World} {s m : Nat} {fp : Option Nat} {es : L Ent} {d : DS} (h : Raw w s fp m es d) : s ≠ m ∧ ∀ e ∈ es, e.2.q ≠ s ∧ e.2.v.ownBlock ≠ some s :=
  ⟨h.map.ne h.row, fun e he => ⟨fun x => h.row.ne (h.file e he).1 ty_sim_file x.symm, (h.file e he).2.ne h.row (fun x => ty_sim_byte x.symm)⟩⟩
/-- One of the disk's own numbers, written. -/
theorem Raw.own {w : World} {s m : Nat} {fp : Option Nat} {es : L Ent} {d d' : DS} (h : Raw w s fp m es d) (i : Nat) (u : Value)
    (hr : Row (w.setCell ⟨s, i, none⟩ u) s 114 #[.int .i64 d'.most, fptr fp, .map (some m), .bool d'.off, .int .i64 d'.bad]) (hf : d'.fs = d.fs) (h1 : d'.bad ≤ 9223372036854775807) (h2 : d'.most ≤ 4194304) : Raw (w.setCell ⟨s, i, none⟩ u) s fp m es d' := by
  have hc : Chg (fun b => b = s) w (w.setCell ⟨s, i, none⟩ u) := (Chg.refl (fun b => b = s) w).at s i (.inl rfl) u
  have hs := h.sim
  exact ⟨hr, h.map.chg hc (fun e => hs.1 e.symm), h.up, fun e he => (h.file e he).chg hc (hs.2 e he).1 (fun b hb e2 => (hs.2 e he).2 (by rw [hb, e2])), h.apart, by rw [hf, h.fs], h1, h2⟩
end Go.Proofs.YthkbbcdnmdjhdaaGreat
/-! XDkB: The fuse's functions; New; begin. -/
namespace Go.Proofs.YthkbbcdnmdjhdaaGreat
open Go.RowKit Dk
set_option maxRecDepth 100000
set_option maxHeartbeats 4000000
attribute [local go_sem] min_int2 max_int2 bstr_toList

theorem wp_cutw (slots : List Nat) (i : Nat) (v : Value) (R : World → Prop) {P : Program} {id : Nat} {ops : Array Oper} {b : Bool} {Q : Exit → Act → World → Prop} {L : List Value} {d : List Deferred} {w : World}
    (h1 : (Code.region id ops b).wp P (CutPost (L.set i v) slots d R) ⟨L.toArray, d⟩ w) (h2 : ∀ (u : Nat → Value) (w' : World), R w' → Q .normal ⟨(setAll (L.set i v) slots u).toArray, d⟩ w') : (Code.region id ops b).wp P Q ⟨L.toArray, d⟩ w :=
  Code.wp_mono (fun e a' w' h => by
    cases e with
    | normal => obtain ⟨hR, u, rfl⟩ := h; exact h2 u w' hR
    | _ => exact h.elim) h1
def zops : Option FS → Nat
  | none => 0
  | some z => z.ops
/-- The fuse's block alone. -/
def Fb (fp : Option Nat) (b : Nat) : Prop := fp = some b

theorem newfuse_any (w : World) : Calls Tryz.prog 66 #[] w fun e w' => e = .returned (.pointer (some ⟨w.heap.size, 0, none⟩)) ∧ FzAt w' (some w.heap.size) (some ⟨0, 0, false⟩) ∧ Ext w w' ∧ w'.heap.size = w.heap.size + 1 := by
  have hF : FzAt (w.alloc (.cells #[.int .i64 0, .int .i64 0, .bool false] 139)) (some w.heap.size) (some ⟨0, 0, false⟩) := ⟨Row.new w _ _, (by decide : (-9223372036854775808 : Int) ≤ 0), (by decide : (0 : Int) ≤ 9223372036854775807)⟩
  have hX : Ext w (w.alloc (.cells #[.int .i64 0, .int .i64 0, .bool false] 139)) := (Ext.refl w).alloc (Nat.le_refl _) _
  have H := Lib.hid (And.intro hF hX)
  clear hF hX
  go_enter Tryz.func66, Tryz.ntmps66
  go_wp2_with fail
  go_ret
  exact ⟨rfl, H.out.1, H.out.2, by simp⟩
theorem blown_any (b : Nat) (z : FS) (w : World) (h : FzAt w (some b) (some z)) : Calls Tryz.prog 82 #[.pointer (some ⟨b, 0, none⟩)] w fun e w' => e = .returned (.bool z.blown) ∧ w = w' := by
  obtain ⟨h1, -⟩ := h
  have c := h1.cell (i := 2) (v := .bool z.blown) rfl
  clear h1
  go_enter Tryz.func82, Tryz.ntmps82
  go_wp2_with fail
  go_ret
  exact ⟨rfl, rfl⟩
theorem ops_any (b : Nat) (z : FS) (w : World) (h : FzAt w (some b) (some z)) : Calls Tryz.prog 81 #[.pointer (some ⟨b, 0, none⟩)] w fun e w' => e = .returned (.int .i64 z.ops) ∧ w = w' := by
  obtain ⟨h1, -⟩ := h
  have c := h1.cell (i := 1) (v := .int .i64 z.ops) rfl
  clear h1
  go_enter Tryz.func81, Tryz.ntmps81
  go_wp2_with fail
  go_ret
  exact ⟨rfl, rfl⟩
theorem fset_any (b : Nat) (z : FS) (n : Int) (hn : -9223372036854775808 ≤ n ∧ n ≤ 9223372036854775807) (w : World) (h : FzAt w (some b) (some z)) :
    Calls Tryz.prog 24 #[.pointer (some ⟨b, 0, none⟩), .int .i64 n] w fun e w' => e = .returned (.tuple #[]) ∧ FzAt w' (some b) (some ⟨n, 0, false⟩) ∧ Chg (Fb (some b)) w w' ∧ w'.heap.size = w.heap.size := by
  obtain ⟨h1, -⟩ := h
  have r1 := ((h1.set 0 (.int .i64 n)).set 1 (.int .i64 0)).set 2 (.bool false)
  have H := Lib.hid r1
  have c0 := h1.cell (i := 0) rfl
  have c1 := h1.cell (i := 1) rfl
  have c2 := h1.cell (i := 2) rfl
  have u0 := h1.unfrozen 0
  have u1 := h1.unfrozen 1
  have u2 := h1.unfrozen 2
  have HN := Lib.hid hn
  clear h1 r1
  go_enter Tryz.func24, Tryz.ntmps24
  go_wp2_with fail
  go_end0
  have r2 := H.out
  refine ⟨rfl, ⟨by simpa using r2, HN.out.1, HN.out.2⟩, (((Chg.refl (Fb (some b)) _).at b 0 (.inl rfl) _).at b 1 (.inl rfl) _).at b 2 (.inl rfl) _, by simp⟩
theorem tick_any (fp : Option Nat) (z : Option FS) (w : World) (h : FzAt w fp z) (hz : zops z < 1099511627776) :
    Calls Tryz.prog 115 #[fptr fp] w fun e w' => e = .returned (.bool (ticks z).1) ∧ FzAt w' fp (ticks z).2 ∧ Chg (Fb fp) w w' ∧ w'.heap.size = w.heap.size := by
  cases fp with
  | none =>
    cases z with
    | some z => exact h.elim
    | none =>
      show Calls _ _ #[.pointer none] _ _
      go_enter Tryz.func115, Tryz.ntmps115
      go_wp2_with fail
      go_ret
      exact ⟨rfl, trivial, Chg.refl _ _, rfl⟩
  | some b =>
    cases z with
    | none => exact h.elim
    | some z =>
      obtain ⟨n, k, bl⟩ := z
      obtain ⟨h1, n1, n2⟩ := h
      have hz : k < 1099511627776 := hz
      simp only at h1 n1 n2
      show Calls _ _ #[.pointer (some ⟨b, 0, none⟩)] _ _
      have c2 := h1.cell (i := 2) (v := .bool bl) rfl
      cases bl with
      | true =>
        have H := Lib.hid h1
        clear h1
        go_enter Tryz.func115, Tryz.ntmps115
        go_wp2_with fail
        go_ret
        exact ⟨rfl, ⟨H.out, n1, n2⟩, Chg.refl _ _, rfl⟩
      | false =>
        have c0 := h1.cell (i := 0) (v := .int .i64 n) rfl
        have c1 := h1.cell (i := 1) (v := .int .i64 k) rfl
        have u1 := h1.unfrozen 1
        have r1 := h1.set 1 (.int .i64 ((k : Int) + 1))
        have r1 : Row (w.setCell ⟨b, 1, none⟩ (.int .i64 ((k : Int) + 1))) b 139 #[.int .i64 n, .int .i64 ((k : Int) + 1), .bool false] := by simpa using r1
        have g1 : Chg (Fb (some b)) w (w.setCell ⟨b, 1, none⟩ (.int .i64 ((k : Int) + 1))) ∧ (w.setCell ⟨b, 1, none⟩ (.int .i64 ((k : Int) + 1))).heap.size = w.heap.size := ⟨(Chg.refl (Fb (some b)) _).at b 1 (.inl rfl) _, setCell_size _ _ _⟩
        have R1 := Lib.hid r1
        have G1 := Lib.hid g1
        clear h1 r1 g1
        go_enter Tryz.func115, Tryz.ntmps115
        go_wp2_with fail
        generalize w.setCell ⟨b, 1, none⟩ (.int .i64 ((k : Int) + 1)) = w1 at R1 G1 ⊢
        clear c0 c1 c2 u1
        have c0 := R1.out.cell (i := 0) (v := .int .i64 n) rfl
        have c1 := R1.out.cell (i := 1) (v := .int .i64 ((k : Int) + 1)) rfl
        have c2 := R1.out.cell (i := 2) (v := .bool false) rfl
        have u2 := R1.out.unfrozen 2
        have S0 : (fun w' : World => w'.cell? ⟨b, 0, none⟩ = some (.int .i64 n) ∧ w'.cell? ⟨b, 1, none⟩ = some (.int .i64 ((k : Int) + 1))) w1.drew := ⟨c0, c1⟩
        have hS : ∀ v, (fun w' : World => w'.cell? ⟨b, 0, none⟩ = some (.int .i64 n) ∧ w'.cell? ⟨b, 1, none⟩ = some (.int .i64 ((k : Int) + 1))) (w1.drew.setCell ⟨b, 2, none⟩ v) := fun v => by
          have r2 := R1.out.drew.set 2 v
          exact ⟨r2.cell (i := 0) rfl, r2.cell (i := 1) rfl⟩
        have fin : ∀ d : Bool, d = decide (0 < n ∧ n ≤ (k : Int) + 1) → FzAt (w1.drew.setCell ⟨b, 2, none⟩ (.bool d)) (some b) (ticks (some ⟨n, k, false⟩)).2 ∧ Chg (Fb (some b)) w (w1.drew.setCell ⟨b, 2, none⟩ (.bool d)) ∧ (w1.drew.setCell ⟨b, 2, none⟩ (.bool d)).heap.size = w.heap.size := fun d hd => by
          have r2 := R1.out.drew.set 2 (.bool d)
          subst hd
          exact ⟨⟨by simpa using r2, n1, n2⟩, G1.out.1.drew.at b 2 (.inl rfl) _, by rw [setCell_size]; exact G1.out.2⟩
        have FIN := Lib.hid fin
        clear fin
        by_cases hn : 0 < n
        · by_cases hk : n ≤ (k : Int) + 1
          · have HD := Lib.hid (show true = decide (0 < n ∧ n ≤ (k : Int) + 1) by simp [hn, hk])
            go_region_held3 (fun w' : World => w'.cell? ⟨b, 0, none⟩ = some (.int .i64 n) ∧ w'.cell? ⟨b, 1, none⟩ = some (.int .i64 ((k : Int) + 1))) (first | assumption | exact hS _) (fail)
            go_wp2_with fail
            go_ret
            exact ⟨rfl, (FIN.out true HD.out).1, (FIN.out true HD.out).2⟩
          · have hk' : (k : Int) + 1 < n := by omega
            have HD := Lib.hid (show false = decide (0 < n ∧ n ≤ (k : Int) + 1) by simp [hk])
            have hkd : decide (n ≤ (k : Int) + 1) = false := by simpa using hk'
            clear hk
            go_region_held3 (fun w' : World => w'.cell? ⟨b, 0, none⟩ = some (.int .i64 n) ∧ w'.cell? ⟨b, 1, none⟩ = some (.int .i64 ((k : Int) + 1))) (first | assumption | exact hS _) (fail)
            go_wp2_with fail
            go_ret
            exact ⟨rfl, (FIN.out false HD.out).1, (FIN.out false HD.out).2⟩
        · have hn' : n ≤ 0 := by omega
          have HD := Lib.hid (show false = decide (0 < n ∧ n ≤ (k : Int) + 1) by simp [hn])
          have hdn : decide (0 < n) = false := by simpa using hn'
          clear hn
          have hlS : ∀ wl : World, (fun w' : World => w'.cell? ⟨b, 0, none⟩ = some (.int .i64 n) ∧ w'.cell? ⟨b, 1, none⟩ = some (.int .i64 ((k : Int) + 1))) wl → wl.cell? ⟨b, 0, none⟩ = some (.int .i64 n) ∧ wl.cell? ⟨b, 1, none⟩ = some (.int .i64 ((k : Int) + 1)) ∧ True ∧ True := fun wl h => ⟨h.1, h.2, trivial, trivial⟩
          have hS := S0
          refine wp_cut [18, 19, 20, 21, 22, 23, 24, 25, 26, 27, 28, 29, 30, 31, 32, 33, 34, 35, 36] (fun w8 => FzAt w8 (some b) (ticks (some ⟨n, k, false⟩)).2 ∧ Chg (Fb (some b)) w w8 ∧ w8.heap.size = w.heap.size) ?_ ?_
          · refine wp_region_U (fun w' : World => w'.cell? ⟨b, 0, none⟩ = some (.int .i64 n) ∧ w'.cell? ⟨b, 1, none⟩ = some (.int .i64 ((k : Int) + 1))) 19 (by kernel_rfl) ?_
            refine wpU_pure (i := 0) (v := ?_) rfl (by kernel_rfl) (by kernel_rfl) (by kernel_rfl) (by decide) (fun _ _ _ h => h) (fun _ => hS) (Or.inl ⟨by rfl, fun _ _ => ?_⟩) ?_
            rotate_left
            · go_simp
              try with_reducible rfl
            try simp only [Act.put]
            refine wpU_pure (i := 1) (v := ?_) rfl (by kernel_rfl) (by kernel_rfl) (by kernel_rfl) (by decide) (fun _ _ _ h => h) (fun _ => hS) (Or.inl ⟨by rfl, fun _ _ => ?_⟩) ?_
            rotate_left
            · go_simp
              try with_reducible rfl
            try simp only [Act.put]
            refine wpU_pure (i := 2) (v := ?_) rfl (by kernel_rfl) (by kernel_rfl) (by kernel_rfl) (by decide) (fun _ _ _ h => h) (fun _ => hS) (Or.inl ⟨by rfl, fun _ _ => ?_⟩) ?_
            rotate_left
            · go_simp
              try with_reducible rfl
            try simp only [Act.put]
            refine wpU_pure (i := 3) (v := ?_) rfl (by kernel_rfl) (by kernel_rfl) (by kernel_rfl) (by decide) (fun _ _ _ h => h) (fun _ => hS) (Or.inl ⟨by rfl, fun _ _ => ?_⟩) ?_
            rotate_left
            · go_simp
              try with_reducible rfl
            try simp only [Act.put]
            refine wpU_load (i := 4) (v := ?_) rfl (by kernel_rfl) (by kernel_rfl) (by kernel_rfl) (by decide) (by kernel_rfl) (by kernel_rfl) (fun _ _ _ h => h) hS (Or.inl ⟨by rfl, fun wl hl => ?_⟩) ?_
            rotate_left
            · have hl2 := hlS wl hl
              obtain ⟨l1, l2, l3, l4⟩ := hl2
              go_simp
              try with_reducible rfl
            try simp only [Act.put]
            refine wpU_pure (i := 5) (v := ?_) rfl (by kernel_rfl) (by kernel_rfl) (by kernel_rfl) (by decide) (fun _ _ _ h => h) (fun _ => hS) (Or.inl ⟨by rfl, fun _ _ => ?_⟩) ?_
            rotate_left
            · go_simp
              try with_reducible rfl
            try simp only [Act.put]
            refine wpU_pure (i := 6) (v := ?_) rfl (by kernel_rfl) (by kernel_rfl) (by kernel_rfl) (by decide) (fun _ _ _ h => h) (fun _ => hS) (Or.inl ⟨by rfl, fun _ _ => ?_⟩) ?_
            rotate_left
            · go_simp
              try with_reducible rfl
            try simp only [Act.put]
            refine wpU_pure (i := 7) (v := undef) rfl (by kernel_rfl) (by kernel_rfl) (by kernel_rfl) (by decide) (fun _ _ _ h => h) (fun _ => hS) (Or.inr ⟨by kernel_rfl, rfl⟩) ?_
            try simp only [Act.put]
            refine wpU_pure (i := 8) (v := undef) rfl (by kernel_rfl) (by kernel_rfl) (by kernel_rfl) (by decide) (fun _ _ _ h => h) (fun _ => hS) (Or.inr ⟨by kernel_rfl, rfl⟩) ?_
            try simp only [Act.put]
            refine wpU_pure (i := 9) (v := undef) rfl (by kernel_rfl) (by kernel_rfl) (by kernel_rfl) (by decide) (fun _ _ _ h => h) (fun _ => hS) (Or.inr ⟨by kernel_rfl, rfl⟩) ?_
            try simp only [Act.put]
            refine wpU_pure (i := 10) (v := undef) rfl (by kernel_rfl) (by kernel_rfl) (by kernel_rfl) (by decide) (fun _ _ _ h => h) (fun _ => hS) (Or.inr ⟨by kernel_rfl, rfl⟩) ?_
            try simp only [Act.put]
            refine wpU_pure (i := 11) (v := undef) rfl (by kernel_rfl) (by kernel_rfl) (by kernel_rfl) (by decide) (fun _ _ _ h => h) (fun _ => hS) (Or.inr ⟨by kernel_rfl, rfl⟩) ?_
            try simp only [Act.put]
            refine wpU_pure (i := 12) (v := undef) rfl (by kernel_rfl) (by kernel_rfl) (by kernel_rfl) (by decide) (fun _ _ _ h => h) (fun _ => hS) (Or.inr ⟨by kernel_rfl, rfl⟩) ?_
            try simp only [Act.put]
            refine wpU_pure (i := 13) (v := undef) rfl (by kernel_rfl) (by kernel_rfl) (by kernel_rfl) (by decide) (fun _ _ _ h => h) (fun _ => hS) (Or.inr ⟨by kernel_rfl, rfl⟩) ?_
            try simp only [Act.put]
            refine wpU_pure (i := 14) (v := undef) rfl (by kernel_rfl) (by kernel_rfl) (by kernel_rfl) (by decide) (fun _ _ _ h => h) (fun _ => hS) (Or.inr ⟨by kernel_rfl, rfl⟩) ?_
            try simp only [Act.put]
            refine wpU_pure (i := 15) (v := undef) rfl (by kernel_rfl) (by kernel_rfl) (by kernel_rfl) (by decide) (fun _ _ _ h => h) (fun _ => hS) (Or.inr ⟨by kernel_rfl, rfl⟩) ?_
            try simp only [Act.put]
            refine wpU_pure (i := 16) (v := ?_) rfl (by kernel_rfl) (by kernel_rfl) (by kernel_rfl) (by decide) (fun _ _ _ h => h) (fun _ => hS) (Or.inl ⟨by rfl, fun _ _ => ?_⟩) ?_
            rotate_left
            · go_simp
              try with_reducible rfl
            try simp only [Act.put]
            refine wpU_pure (i := 17) (v := ?_) rfl (by kernel_rfl) (by kernel_rfl) (by kernel_rfl) (by decide) (fun _ _ _ h => h) (fun _ => hS) (Or.inl ⟨by rfl, fun _ _ => ?_⟩) ?_
            rotate_left
            · go_simp
              try with_reducible rfl
            try simp only [Act.put]
            refine wpU_pure (i := 18) (v := ?_) rfl (by kernel_rfl) (by kernel_rfl) (by kernel_rfl) (by decide) (fun _ _ _ h => h) (fun _ => hS) (Or.inl ⟨by rfl, fun _ _ => ?_⟩) ?_
            rotate_left
            · go_simp
              try with_reducible rfl
            try simp only [Act.put]
            refine wpU_all [19] (by kernel_rfl) (by simp) ?_
            refine ReadyU.cons rfl (fun K hK => ?_) (ReadyU.nil)
            go_simp
            refine hK.out _ _ (fun h => Bool.noConfusion (show true = false from h)) ?_
            clear hK K
            refine wpU_done (by kernel_rfl) ?_ _
            exact cut_end (FIN.out false HD.out) (by kernel_rfl)
          · intro us w4 h4
            have H4 := Lib.hid h4
            clear h4 c0 c1 c2 u2 S0 hS hlS
            simp only [setAll, List.foldl_cons, List.foldl_nil, List.set_cons_zero, List.set_cons_succ]
            go_wp2_with fail
            go_ret
            exact ⟨rfl, H4.out⟩
end Go.Proofs.YthkbbcdnmdjhdaaGreat
/-! XDkC: New; begin. -/
namespace Go.Proofs.YthkbbcdnmdjhdaaGreat
open Go.RowKit Dk
set_option maxRecDepth 100000
set_option maxHeartbeats 4000000
attribute [local go_sem] min_int2 max_int2 bstr_toList

/-- A slice of strings of the code's own. -/
def pvs (ps : List Path) : List Value := ps.map fun p => .string (bstr p)
def Strs (w : World) (v : Value) (ps : List Path) : Prop := Own w 0 9 v (pvs ps)
theorem pvs_len (ps : List Path) : (pvs ps).length = ps.length := List.length_map _
theorem Own.slice' {w : World} {B : Nat} {e : TypeId} {v : Value} {cs : List Value} (h : Own w B e v cs) : ∃ a c, v = .slice a cs.length c := by
  obtain ⟨a, c, e, -⟩ := h.cells
  exact ⟨a, c, e⟩
theorem Strs.form {w : World} {v : Value} {ps : List Path} (h : Strs w v ps) : ∃ a c, v = .slice a ps.length c := by
  have := Own.slice' h
  rwa [pvs_len] at this
theorem Strs.at {w : World} {a : Option Addr} {n c : Nat} {ps : List Path} (h : Strs w (.slice a n c) ps) {j : Nat} (hj : j < ps.length) : ∃ b o, a = some ⟨b, o, none⟩ ∧ w.cell? ⟨b, o + j, none⟩ = some (.string (bstr ps[j])) :=
  (Own.cells h).at (j := j) (by simp [pvs, hj])
theorem Strs.chg {S : Nat → Prop} {w w' : World} {v : Value} {ps : List Path} (h : Strs w v ps) (k : Chg S w w') (hn : ∀ b, v.ownBlock = some b → ¬ S b) : Strs w' v ps := Own.chg h k hn
theorem ty_str_fuse : 9 ≠ 139 := by decide
theorem ty_str_sim : 9 ≠ 114 := by decide
theorem Strs.fz {w : World} {v : Value} {ps : List Path} {fp : Option Nat} {z : Option FS} (h : Strs w v ps) (hz : FzAt w fp z) : ∀ b, v.ownBlock = some b → fp ≠ some b := fun b hb e => by
  subst e
  cases z with
  | none => exact hz
  | some z => exact Own.ne h hz.1 ty_str_fuse hb
theorem begin_any (s m : Nat) (fp : Option Nat) (z : Option FS) (es : L Ent) (d : DS) (ps : List Path) (v : Value) (w : World) (h : Raw w s fp m es d) (hz : FzAt w fp z) (hzo : zops z < 1099511627776)
    (hps : ps.length ≤ 100000) (hpl : ∀ p ∈ ps, p.length ≤ maxLen) (hv : Strs w v ps) :
    Calls Tryz.prog 83 #[.pointer (some ⟨s, 0, none⟩), v] w fun e w' => e = .returned (.int .i64 ((begins z d ps).1 : Nat)) ∧ FzAt w' fp (begins z d ps).2.1 ∧ Raw w' s fp m es (begins z d ps).2.2 ∧ Chg (fun b => b = s ∨ fp = some b) w w' ∧ w'.heap.size = w.heap.size := by
  obtain ⟨va, vc, rfl⟩ := hv.form
  have H := Lib.hid h
  have HZ := Lib.hid hz
  have HV := Lib.hid hv
  have c1 := h.row.cell (i := 1) (v := fptr fp) rfl
  have HPL := Lib.hid hpl
  clear h hz hv hpl
  go_enter Tryz.func83, Tryz.ntmps83
  go_wp2_with fail
  refine (tick_any fp z _ HZ.out hzo).mono ?_; rintro e w1 ⟨rfl, hz1, hg1, hsz⟩
  have H1 := Lib.hid (H.out.chg hg1 (fun b hb => H.out.fuse HZ.out b hb))
  have HG1 := Lib.hid (And.intro (hg1.mono (T := fun b => b = s ∨ fp = some b) fun b _ hb => .inr hb) hsz)
  have HV1 := Lib.hid (HV.out.chg hg1 (HV.out.fz HZ.out))
  have HZ1 := Lib.hid hz1
  clear hz1 hg1 hsz c1
  obtain ⟨t, ht⟩ : ∃ t, (ticks z).1 = t := ⟨_, rfl⟩
  rw [ht]
  have HT := Lib.hid ht
  clear ht
  cases t with
  | false =>
    have HR := Lib.hid (show begins z d ps = (20, (ticks z).2, d) by unfold begins; rw [HT.out, if_pos rfl])
    go_wp2_with fail
    go_ret
    rw [HR.out]
    exact ⟨rfl, HZ1.out, H1.out, HG1.out.1, HG1.out.2⟩
  | true =>
    have c3 := H1.out.row.cell (i := 3) (v := .bool d.off) rfl
    obtain ⟨dm, dof, dbad, dfs⟩ := d
    cases dof with
    | true =>
      have HR := Lib.hid (show begins z ⟨dm, true, dbad, dfs⟩ ps = (10, (ticks z).2, ⟨dm, true, dbad, dfs⟩) by unfold begins; rw [HT.out, if_neg (by simp), if_pos rfl])
      go_wp2_with fail
      go_ret
      rw [HR.out]
      exact ⟨rfl, HZ1.out, H1.out, HG1.out.1, HG1.out.2⟩
    | false =>
      have c4 := H1.out.row.cell (i := 4) (v := .int .i64 dbad) rfl
      have hbd : dbad ≤ 9223372036854775807 := H1.out.nb
      by_cases hb : 0 < dbad
      · have HR := Lib.hid (show begins z ⟨dm, false, dbad, dfs⟩ ps = (9, (ticks z).2, ⟨dm, false, dbad - 1, dfs⟩) by unfold begins; rw [HT.out, if_neg (by simp), if_neg (by simp), if_pos hb])
        have u4 := H1.out.row.unfrozen 4
        have hb' : (0 : Int) < (dbad : Int) := by omega
        have r2 := H1.out.row.set 4 (.int .i64 ((dbad : Int) - 1))
        have e2 : ((dbad : Int) - 1) = ((dbad - 1 : Nat) : Int) := by omega
        have h2 := H1.out.own (d' := ⟨dm, false, dbad - 1, dfs⟩) 4 (.int .i64 ((dbad : Int) - 1)) (by rw [e2] at r2 ⊢; simpa using r2) rfl (by show dbad - 1 ≤ _; omega) H1.out.nm
        have z2 := HZ1.out.chg (S := fun b => b = s) ((Chg.refl (fun b => b = s) w1).at s 4 (.inl rfl) (.int .i64 ((dbad : Int) - 1))) (fun b hb e => H1.out.fuse HZ1.out s (.inl rfl) (by rw [hb, e]))
        have FIN := Lib.hid (And.intro z2 (And.intro h2 (And.intro (HG1.out.1.at s 4 (.inl (.inl rfl)) (.int .i64 ((dbad : Int) - 1))) (show (w1.setCell ⟨s, 4, none⟩ (.int .i64 ((dbad : Int) - 1))).heap.size = w.heap.size by rw [setCell_size]; exact HG1.out.2))))
        clear r2 h2 z2 e2
        go_wp2_with fail
        go_ret
        rw [HR.out]
        exact ⟨rfl, FIN.out⟩
      · have hb' : (dbad : Int) ≤ 0 := by omega
        have HB := Lib.hid hb
        clear hb
        go_wp2_with fail
        clear c3 c4
        go_loop [37] (fun v37 => ∃ j : Nat, j ≤ ps.length ∧ v37 = .int .i64 (j : Nat) ∧ Hid (∀ i, i < j → ∀ p, ps[i]? = some p → okP p = true)) (fun v37 => (ps.length - intOf v37).toNat)
        case atStart => exact ⟨0, by omega, rfl, Lib.hid fun i hi => by omega⟩
        case round =>
          obtain ⟨j, hj, rfl, hJ⟩ := hrel
          by_cases hlt : j < ps.length
          · have hlt' : (j : Int) < (ps.length : Int) := by omega
            obtain ⟨b, o, rfl, c5⟩ := HV1.out.at hlt
            have hpm : ps[j] ∈ ps := List.getElem_mem hlt
            have hpe : ps[j]? = some ps[j] := List.getElem?_eq_getElem hlt
            have hlen := HPL.out ps[j] hpm
            unfold maxLen at hlen
            obtain ⟨p, hp⟩ : ∃ p, ps[j] = p := ⟨_, rfl⟩
            rw [hp] at c5 hpm hpe hlen
            have HP := Lib.hid (And.intro hpm hpe)
            clear hpm hpe hp
            have hbs : (bstr p).size = p.length := rfl
            by_cases hok : 1 ≤ p.length ∧ p.length ≤ 600
            · have q1 : p.isEmpty = false := by cases p; simp at hok; rfl
              have q3 : (p.length : Int) ≤ 600 := by omega
              have HO := Lib.hid hok
              clear hok
              go_wp2_with fail
              exact ⟨⟨j + 1, by omega, by go_num, Lib.hid fun i hi p' hp' => by
                by_cases e : i = j
                · subst e
                  rw [HP.out.2] at hp'
                  cases hp'
                  unfold okP; exact decide_eq_true HO.out
                · exact hJ.out i (by omega) p' hp'⟩, by simp [intOf]; omega⟩
            · have HR := Lib.hid (show begins z ⟨dm, false, dbad, dfs⟩ ps = (1, (ticks z).2, ⟨dm, false, dbad, dfs⟩) by
                have : ps.all okP = false := by
                  refine List.all_eq_false.2 ⟨p, HP.out.1, ?_⟩
                  unfold okP
                  simpa using hok
                unfold begins; rw [HT.out, if_neg (by simp), if_neg (by simp), if_neg HB.out, this, if_neg (by simp)])
              by_cases h0 : p = []
              · have q1 : p.isEmpty = true := by rw [h0]; rfl
                clear hok h0
                go_wp2_with fail
                go_ret
                rw [HR.out]
                exact ⟨rfl, HZ1.out, H1.out, HG1.out.1, HG1.out.2⟩
              · have q1 : p.isEmpty = false := by cases p; exact absurd rfl h0; rfl
                have hl1 : 1 ≤ p.length := by cases p; exact absurd rfl h0; simp
                have q3 : (600 : Int) < (p.length : Int) := by omega
                clear hok h0
                go_wp2_with fail
                go_ret
                rw [HR.out]
                exact ⟨rfl, HZ1.out, H1.out, HG1.out.1, HG1.out.2⟩
          · have HR := Lib.hid (show begins z ⟨dm, false, dbad, dfs⟩ ps = (0, (ticks z).2, ⟨dm, false, dbad, dfs⟩) by
              have : ps.all okP = true := List.all_eq_true.2 fun p hp => by
                obtain ⟨i, hi⟩ := List.getElem?_of_mem hp
                exact hJ.out i (by have := (List.getElem?_eq_some_iff.1 hi).1; omega) p hi
              unfold begins; rw [HT.out, if_neg (by simp), if_neg (by simp), if_neg HB.out, this, if_pos rfl])
            clear hJ
            go_wp2_with fail
            go_ret
            rw [HR.out]
            exact ⟨rfl, HZ1.out, H1.out, HG1.out.1, HG1.out.2⟩
end Go.Proofs.YthkbbcdnmdjhdaaGreat
/-! XDkD: open: an operation on a file that is there. -/
namespace Go.Proofs.YthkbbcdnmdjhdaaGreat
open Go.RowKit Dk
set_option maxRecDepth 100000
set_option maxHeartbeats 4000000
attribute [local go_sem] min_int2 max_int2 bstr_toList

theorem info_str : (Tryz.prog.info? 9).map (fun i => (i.zero, i.size, i.bytes)) = some (some (.string ByteArray.empty), 1, 16) := by kernel_rfl
theorem pvs_one (ps : List Path) : ∀ u ∈ pvs ps, u.oneCell' = true := fun u hu => by obtain ⟨p, -, rfl⟩ := List.mem_map.1 hu; rfl
theorem Strs.one (w : World) (p : Path) : Strs (w.alloc (.cells #[.string (bstr p)] 9)) (.slice (some ⟨w.heap.size, 0, none⟩) 1 1) [p] := Own.new w 0 9 #[.string (bstr p)] (Nat.zero_le _) (by unfold maxLen; simp)
namespace Dk
def begun (z : Option FS) (d : DS) (ps : List Path) : DS := (begins z d ps).2.2
theorem begins_fs (z : Option FS) (d : DS) (ps : List Path) : (begins z d ps).2.2.fs = d.fs := by
  unfold begins; repeat (first | rfl | split)
/-- open's error. -/
def opens (z : Option FS) (d : DS) (p : Path) (more : List Path) : Nat := if (begins z d (p :: more)).1 = 0 then (if (get p d.fs).isSome then 0 else 6) else (begins z d (p :: more)).1
end Dk
def openQ (z : Option FS) (es : L Ent) (d : DS) (p : Path) (more : List Path) : Option Nat := if (begins z d (p :: more)).1 = 0 then (get p es).map (·.q) else none
def OpenOut (s m : Nat) (fp : Option Nat) (z : Option FS) (es : L Ent) (d : DS) (p : Path) (more : List Path) (w : World) (e : Ending) (w' : World) : Prop :=
  e = .returned (.tuple #[fptr (openQ z es d p more), .int .i64 (opens z d p more : Nat)]) ∧ FzAt w' fp (begins z d (p :: more)).2.1 ∧ Raw w' s fp m es (begins z d (p :: more)).2.2 ∧ Chg (fun b => b = s ∨ fp = some b) w w'
theorem open_any (s m : Nat) (fp : Option Nat) (z : Option FS) (es : L Ent) (d : DS) (p : Path) (more : List Path) (v : Value) (w : World) (h : Raw w s fp m es d) (hz : FzAt w fp z) (hzo : zops z < 1099511627776)
    (hp : p.length ≤ maxLen) (hps : more.length ≤ 1000) (hpl : ∀ p ∈ more, p.length ≤ maxLen) (hv : Strs w v more) :
    Calls Tryz.prog 129 #[.pointer (some ⟨s, 0, none⟩), .string (bstr p), v] w (OpenOut s m fp z es d p more w) := by
  obtain ⟨va, vc, rfl⟩ := hv.form
  have H := Lib.hid h
  have HZ := Lib.hid hz
  have HPL := Lib.hid (And.intro hp hpl)
  have o1 := Strs.one w p
  have x1 : Ext w (w.alloc (.cells #[.string (bstr p)] 9)) := (Ext.refl w).alloc (Nat.le_refl _) _
  have HA := Lib.hid (And.intro o1 (And.intro (Own.ext hv x1) x1))
  clear h hz hv hp hpl o1 x1
  go_enter Tryz.func129, Tryz.ntmps129
  go_wp2_with (at_builtin; refine list_of_wp rfl fun K hK => wp_appx _ _ 29 29 9 (.string ByteArray.empty) 16 rfl Tryz.underlying29 info_str rfl rfl HA.out.1 rfl (Cells.src Tryz.underlying29 (Own.cells HA.out.2.1) (pvs_one _)) (by simp [pvs, maxLen]; omega) (by simp [pvs]; omega) (Nat.zero_le _) (more.length + 1) (by simp [pvs]; omega) fun ad c w7 ha => hK _ _ ?_)
  obtain ⟨ha1, ha2, -⟩ := ha
  have x7 : Ext w w7 := Below.grown HA.out.2.2 ha2 (HA.out.2.2.size) (fun k hk => by cases hk; exact Nat.le_refl _)
  have hs7 : Strs w7 (.slice ad (more.length + 1) c) (p :: more) := by
    have e : pvs [p] ++ pvs more = pvs (p :: more) := rfl
    rw [e] at ha1
    exact ha1.mono (Nat.zero_le _)
  have HS7 := Lib.hid hs7
  have H7 := Lib.hid (H.out.chg (Chg.of_ext x7 (fun _ => False)) (fun _ _ h => h))
  have HZ7 := Lib.hid (HZ.out.chg (Chg.of_ext x7 (fun _ => False)) (fun _ _ h => h))
  have X7 := Lib.hid x7
  clear ha1 ha2 hs7 x7
  go_wp2_with fail
  refine (begin_any s m fp z es d (p :: more) _ _ H7.out HZ7.out hzo (by simp; omega) (fun q hq => by rcases List.mem_cons.1 hq with rfl | h; exact HPL.out.1; exact HPL.out.2 q h) HS7.out).mono ?_; rintro e w8 ⟨rfl, hz8, h8, hg8, -⟩
  have HZ8 := Lib.hid hz8
  have H8 := Lib.hid h8
  have HG8 := Lib.hid (Chg.after X7.out hg8)
  clear hz8 h8 hg8
  obtain ⟨n, hn⟩ : ∃ n, (begins z d (p :: more)).1 = n := ⟨_, rfl⟩
  rw [hn]
  have HN := Lib.hid hn
  clear hn
  by_cases h0 : n = 0
  · subst h0
    have q1 : (((0 : Nat) : Int) != 0) = false := rfl
    have c2 := H8.out.row.cell (i := 2) (v := .map (some m)) rfl
    have hl := H8.out.map.look p HPL.out.1
    rw [qs_get] at hl
    have HO : Hid (opens z d p more = if (get p d.fs).isSome then 0 else 6) := Lib.hid (by unfold opens; rw [HN.out, if_pos rfl])
    have HF : Hid ((get p d.fs).isSome = (get p es).isSome) := Lib.hid (by rw [H.out.fs, fils_get]; simp)
    cases hg : get p es with
    | none =>
      rw [hg] at hl
      have HG := Lib.hid hg
      clear hg
      go_wp2_with fail
      go_ret2
      exact ⟨by unfold openQ; rw [HN.out, if_pos rfl, HG.out, HO.out, HF.out, HG.out]; rfl, HZ8.out, H8.out, HG8.out⟩
    | some x =>
      rw [hg] at hl
      have HG := Lib.hid hg
      clear hg
      go_wp2_with fail
      go_ret2
      exact ⟨by unfold openQ; rw [HN.out, if_pos rfl, HG.out, HO.out, HF.out, HG.out]; rfl, HZ8.out, H8.out, HG8.out⟩
  · have q1 : ((n : Int) != 0) = true := by simp; omega
    have HO : Hid (opens z d p more = n) := Lib.hid (by unfold opens; rw [HN.out, if_neg h0])
    have H0 := Lib.hid h0
    clear h0
    go_wp2_with fail
    go_ret2
    exact ⟨by unfold openQ; rw [HN.out, if_neg H0.out, HO.out]; rfl, HZ8.out, H8.out, HG8.out⟩
end Go.Proofs.YthkbbcdnmdjhdaaGreat
/-! XDkE: A range over a disk's files; Used; bytes.Clone. -/
namespace Go.Proofs.YthkbbcdnmdjhdaaGreat
open Go.RowKit Dk Go.WideShapes Go.ChangeMaps Go.MapKept
set_option maxRecDepth 100000
set_option maxHeartbeats 4000000
attribute [local go_sem] min_int2 max_int2 bstr_toList

/-- A range over the map in block m is under way, its iterator in block r; left tells which are still to come. -/
def FRange (w : World) (m r : Nat) (l : L Nat) (left : Lit → Bool) (cnt : Nat) : Prop := w.ranges Tryz.prog 9 Rq m r l.length (Dm l) left cnt
def allLeft (l : L Nat) : Lit → Bool := Maps.has (Dm l)
def strike (left : Lit → Bool) (p : Path) : Lit → Bool := fun z => left z && !z.sameKey (.string p)
theorem FRange.start {w : World} {m : Nat} {l : L Nat} (h : FMap w m l) : ∃ w', (Instr.range 112 (.map (some m))).run Tryz.prog w = .ok (.pointer (some ⟨w.heap.size, 0, none⟩)) w' ∧ FRange w' m w.heap.size l (allLeft l) l.length ∧ Ext w w' ∧ w'.heap.size = w.heap.size + 1 := by
  obtain ⟨w', h1, h2, h3, h4⟩ := World.ownsMap.range h kstr Tryz.underlying112
  rw [Dm_size] at h2
  exact ⟨w', h1, h2, Ext.grown h3 (fun k hk => by cases hk), h4⟩
theorem allLeft_iff (l : L Nat) (p : Path) : allLeft l (.string p) = (get p l).isSome := Dm_has l p
theorem FRange.map {w : World} {m r : Nat} {l : L Nat} {left : Lit → Bool} {cnt : Nat} (h : FRange w m r l left cnt) : FMap w m l := World.ranges.owns h
theorem FRange.lt {w : World} {m r : Nat} {l : L Nat} {left : Lit → Bool} {cnt : Nat} (h : FRange w m r l left cnt) : r < w.heap.size := World.ranges.lt h
theorem FRange.blk {w : World} {m r : Nat} {l : L Nat} {left : Lit → Bool} {cnt : Nat} (h : FRange w m r l left cnt) : ∃ a b c d, w.heap[r]? = some (.mapIter a b c d) := by
  obtain ⟨es, clock, since, seen, c0, _, _, _, _, hr, _⟩ := h
  exact ⟨_, _, _, _, hr⟩
theorem FRange.ne {w : World} {m r b : Nat} {l : L Nat} {left : Lit → Bool} {cnt : Nat} {e : TypeId} {cs : Array Value} (h : FRange w m r l left cnt) (k : Row w b e cs) : b ≠ r := fun x => by
  subst x
  obtain ⟨_, _, _, _, hb⟩ := h.blk
  unfold Row at k
  rw [hb] at k; cases k
theorem FRange.chg {S : Nat → Prop} {w w' : World} {m r : Nat} {l : L Nat} {left : Lit → Bool} {cnt : Nat} (h : FRange w m r l left cnt) (k : Chg S w w') (hm : ¬ S m) (hr : ¬ S r) : FRange w' m r l left cnt := by
  have h1 := h.map.lt
  have h2 := h.lt
  obtain ⟨es, clock, since, seen, c0, hb, F, hs, hD, hi, rest⟩ := h
  exact ⟨es, clock, since, seen, c0, (k.block m h1 hm).trans hb, F, hs, hD, (k.block r h2 hr).trans hi, rest⟩
theorem FRange.next {w : World} {m r : Nat} {l : L Nat} {left : Lit → Bool} {cnt : Nat} (h : FRange w m r l left cnt) (ty : TypeId) :
    ((∀ p, left (.string p) = false) ∧ (Instr.next (.pointer (some ⟨r, 0, none⟩)) false ty).run Tryz.prog w = .ok (.tuple #[.bool false]) w) ∨
    ∃ p q w' cnt', get p l = some q ∧ left (.string p) = true ∧ p.length ≤ maxLen ∧ (Instr.next (.pointer (some ⟨r, 0, none⟩)) false ty).run Tryz.prog w = .ok (.tuple #[.bool true, .string (bstr p), .pointer (some ⟨q, 0, none⟩)]) w' ∧
      FRange w' m r l (strike left p) cnt' ∧ cnt' < cnt ∧ Chg (fun b => b = r) w w' ∧ w'.heap.size = w.heap.size ∧ (Instr.entry (.pointer (some ⟨r, 0, none⟩))).run Tryz.prog w' = .ok (.tuple #[.string (bstr p), .pointer (some ⟨q, 0, none⟩)]) w' := by
  rcases World.ranges.next h kstr ty with ⟨_, h1, h2⟩ | ⟨key, v, kl, y, w', cnt', hk, hl, hv, hat, hrun, hrg, hlt, hgr, hsz, hen⟩
  · exact .inl ⟨fun p => h1 _, h2⟩
  · obtain ⟨s, rfl, rfl, hs⟩ := WideMaps.string_of_keyOf Tryz.underlying9 hk
    obtain ⟨p, hp⟩ : ∃ p : Path, s.data.toList = p := ⟨_, rfl⟩
    have hsp : s = bstr p := by rw [← hp]; unfold bstr; simp
    rw [hp] at hl hat hrg
    cases hg : get p l with
    | none =>
      have h1 := hat (.lit (.bool true))
      have h2 := hat (.lit (.bool false))
      rw [Dm_at, hg] at h1 h2
      rw [← h1] at h2
      simp at h2
    | some q =>
      have h1 := hat (.lit (.bool true))
      rw [Dm_at, hg] at h1
      have hv' : v = .pointer (some ⟨q, 0, none⟩) := Rq_inv (ps := y.2) (by rw [hv]; exact congrArg some (Prod.ext h1.symm rfl))
      subst hv'
      rw [hsp] at hrun hen
      exact .inr ⟨p, q, w', cnt', hg, hl, by rw [← hp]; exact hs, hrun, hrg, hlt, (Chg.refl _ w).grown hgr (fun k hk => .inl (Option.some.inj hk).symm), hsz, hen⟩

/-- What has come already. -/
def came {α : Type} (left : Lit → Bool) (l : L α) : L α := l.filter fun e => !left (.string e.1)
theorem same_str (a b : Path) : (Lit.string a).sameKey (.string b) = (a == b) := rfl
theorem came_none {α : Type} {left : Lit → Bool} {l : L α} (h : ∀ e ∈ l, left (.string e.1) = true) : came left l = [] := by
  unfold came
  exact List.filter_eq_nil_iff.2 fun e he => by rw [h e he]; simp
theorem came_all {α : Type} {left : Lit → Bool} {l : L α} (h : ∀ p, left (.string p) = false) : came left l = l := by
  unfold came
  exact List.filter_eq_self.2 fun e he => by rw [h]; rfl
theorem came_cons {α : Type} (left : Lit → Bool) (e : Path × α) (l : L α) : came left (e :: l) = if left (.string e.1) = true then came left l else e :: came left l := by
  unfold came
  rw [List.filter_cons]
  cases left (.string e.1) <;> simp
theorem came_strike_ne {α : Type} {left : Lit → Bool} {p : Path} {l : L α} (h : ∀ e ∈ l, e.1 ≠ p) : came (strike left p) l = came left l := by
  unfold came
  refine List.filter_congr fun e he => ?_
  unfold strike
  have : ((Lit.string e.1).sameKey (.string p)) = false := by rw [same_str]; simpa using h e he
  rw [this]; simp
theorem tot_came {left : Lit → Bool} {p : Path} {f : Fil} : ∀ {l : L Fil}, Up l → get p l = some f → left (.string p) = true → tot (came (strike left p) l) = tot (came left l) + f.b.length
  | [], _, h, _ => by cases h
  | e :: l, hu, hg, hl => by
    rw [get_cons] at hg
    rw [came_cons, came_cons]
    by_cases he : e.1 = p
    · rw [if_pos he] at hg
      cases hg
      have hn : ∀ x ∈ l, x.1 ≠ p := fun x hx => by rw [← he]; exact (before_ne (hu.head _ hx)).symm
      have s1 : strike left p (.string e.1) = false := by unfold strike; rw [same_str, he]; simp
      rw [s1, if_neg (by simp), he, hl, if_pos rfl, came_strike_ne hn, tot_cons]; omega
    · rw [if_neg he] at hg
      have ih := tot_came hu.tail hg hl
      have s1 : strike left p (.string e.1) = left (.string e.1) := by
        unfold strike
        have : ((Lit.string e.1).sameKey (.string p)) = false := by rw [same_str]; simpa using he
        rw [this]; simp
      rw [s1]
      cases left (.string e.1) with
      | true => rw [if_pos rfl, if_pos rfl, ih]
      | false => rw [if_neg (by simp), if_neg (by simp), tot_cons, tot_cons, ih]; omega
theorem tot_came_le {left : Lit → Bool} : ∀ {l : L Fil}, tot (came left l) ≤ tot l
  | [] => Nat.le_refl _
  | e :: l => by
    rw [came_cons, tot_cons]
    have := tot_came_le (left := left) (l := l)
    split
    · omega
    · rw [tot_cons]; omega
theorem used_any (s m : Nat) (fp : Option Nat) (es : L Ent) (d : DS) (w : World) (h : Raw w s fp m es d) (ht : tot d.fs ≤ 1099511627776) :
    Calls Tryz.prog 84 #[.pointer (some ⟨s, 0, none⟩)] w fun e w' => e = .returned (.int .i64 (tot d.fs : Nat)) ∧ Ext w w' := by
  have H := Lib.hid h
  have c2 := h.row.cell (i := 2) (v := .map (some m)) rfl
  obtain ⟨w1, hrun, hR, hX, -⟩ := FRange.start h.map
  have HR := Lib.hid (And.intro hR hX)
  have hfs := h.fs
  have HU := Lib.hid (h.up.mapv (·.f))
  obtain ⟨r, hr⟩ : ∃ r, w.heap.size = r := ⟨_, rfl⟩
  rw [hr] at hrun HR
  have HRR := Lib.hid hr
  have hf0 : tot (came (allLeft (qs es)) d.fs) = 0 := by
    rw [came_none]
    · rfl
    · intro e he
      rw [hfs] at he
      obtain ⟨x, hx, rfl⟩ := List.mem_map.1 he
      rw [allLeft_iff, qs_get, get_of_mem h.up (x := x.2) (by exact hx)]; rfl
  have HF0 := Lib.hid hf0
  have HFS := Lib.hid hfs
  clear h hR hX hr hf0 hfs
  go_enter Tryz.func84, Tryz.ntmps84
  go_wp2_with fail
  clear hrun c2
  go_loopw [3] (fun v3 wr => ∃ (left : Lit → Bool) (cnt : Nat), v3 = .int .i64 (tot (came left d.fs) : Nat) ∧ Hid (FRange wr m r (qs es) left cnt) ∧ Ext w wr) (fun _ wr => wr.rangeLeft m r)
  case atStart => exact ⟨_, _, by rw [HF0.out]; rfl, Lib.hid HR.out.1, HR.out.2⟩
  case round =>
    obtain ⟨left, cnt, rfl, hF, hE⟩ := hrel
    have hml : wr.rangeLeft m r = cnt := World.ranges.left_eq hF.out
    have HE := Lib.hid hE
    rcases hF.out.next 0 with ⟨hl, hrun⟩ | ⟨p, q, w2, cnt', hg, hl, hpl, hrun, hF2, hlt, hg2, hsz, hen⟩
    · have hT := Lib.hid (show tot (came left d.fs) = tot d.fs by rw [came_all hl])
      clear hl hml
      go_wp2_with fail
      go_ret
      exact ⟨by rw [hT.out]; rfl, HE.out⟩
    · rw [qs_get] at hg
      cases hx : get p es with
      | none => rw [hx] at hg; cases hg
      | some x =>
        rw [hx] at hg
        simp only [Option.map_some, Option.some.injEq] at hg
        subst hg
        have hfile := (H.out.file _ (get_mem hx)).chg (Chg.of_ext hE (fun _ => False)) (fun h => h) (fun _ _ h => h)
        have hqr : x.q ≠ r := hF.out.ne hfile.1
        have hf2 := hfile.1.chg hg2 hqr
        have c1 := hf2.cell (i := 0) (v := x.v) rfl
        obtain ⟨va, vc, hv⟩ := Own.slice' hfile.2
        rw [bvs_len] at hv
        rw [hv] at c1
        have hle := tot_came_le (left := left) (l := d.fs)
        have hst := tot_came (left := left) (by rw [HFS.out]; exact HU.out) (show get p d.fs = some x.f by rw [HFS.out, fils_get, hx]; rfl) hl
        have hle2 := tot_came_le (left := strike left p) (l := d.fs)
        have hw2 : Ext w w2 := ⟨hg2.os.trans hE.os, hg2.tape.trans hE.tape, hg2.output.trans hE.output, Nat.le_trans hE.size hg2.size, fun b hb => (hg2.block b (Nat.lt_of_lt_of_le hb hE.size) (fun e => by have := HRR.out; omega)).trans (hE.block b hb)⟩
        have hE2 := Lib.hid hw2
        obtain ⟨t0, ht0⟩ : ∃ t0, tot (came left d.fs) = t0 := ⟨_, rfl⟩
        obtain ⟨n0, hn0⟩ : ∃ n0, x.f.b.length = n0 := ⟨_, rfl⟩
        rw [ht0, hn0] at hst
        rw [ht0] at hle ⊢
        rw [hn0] at c1
        have b0 : n0 ≤ 1099511627776 := by omega
        have hmk : wr.rangeLeft m r = cnt := hml
        have HN := Lib.hid (And.intro hF2 (And.intro hst (And.intro hlt hmk)))
        have hle3 : t0 ≤ 1099511627776 := by omega
        clear hw2 hst hle hle2 hlt hF2 hml hmk hv hf2 hfile ht0 hn0 hx hg2 hsz hE hqr hl hpl
        go_wp2_with fail
        exact ⟨⟨_, _, by rw [HN.out.2.1]; go_num, Lib.hid HN.out.1, hE2.out⟩, by rw [World.ranges.left_eq HN.out.1, HN.out.2.2.2]; exact HN.out.2.2.1⟩
end Go.Proofs.YthkbbcdnmdjhdaaGreat
/-! XDkF: bytes.Clone; Write. -/
namespace Go.Proofs.YthkbbcdnmdjhdaaGreat
open Go.RowKit Dk Go.WideShapes Go.ChangeMaps Go.MapKept
set_option maxRecDepth 100000
set_option maxHeartbeats 4000000
attribute [local go_sem] min_int2 max_int2 bstr_toList

/-- Cells of bytes are none of a disk's own, nor of a fuse's. -/
theorem Bytes.keep {S : Nat → Prop} {w w' : World} {v : Value} {l : List UInt8} (h : Bytes w v l) (k : Chg S w w') (hS : ∀ b o x, S b → w.cell? ⟨b, o, none⟩ ≠ some (bv x)) : Bytes w' v l := by
  obtain ⟨a, cap, e, h1, h2, h3⟩ := h
  refine ⟨a, cap, e, h1, h2, fun j u hu => ?_⟩
  obtain ⟨ad, e1, e2⟩ := h3 j u hu
  refine ⟨ad, e1, k.cell e2 fun hs => ?_⟩
  obtain ⟨x, hx⟩ : ∃ x, u = bv x := by
    obtain ⟨x, -, hx⟩ := List.mem_map.1 (List.mem_of_getElem? hu)
    exact ⟨x, hx.symm⟩
  have hp := addr_plain e2
  rw [hp, hx] at e2
  exact hS _ _ x hs e2
theorem Raw.nobytes {w : World} {s m : Nat} {fp : Option Nat} {es : L Ent} {d : DS} {z : Option FS} (h : Raw w s fp m es d) (hz : FzAt w fp z) (b o : Nat) (x : UInt8) (hb : b = s ∨ fp = some b) : w.cell? ⟨b, o, none⟩ ≠ some (bv x) := by
  intro hc
  rcases hb with rfl | rfl
  · have hr := h.row
    unfold Row at hr
    simp only [World.cell?, hr] at hc
    have : (#[.int .i64 (d.most : Int), fptr fp, .map (some m), .bool d.off, .int .i64 (d.bad : Int)] : Array Value)[o]? = some (bv x) := by simpa using hc
    match o, this with
    | 0, h => simp [bv] at h
    | 1, h => simp [bv, fptr] at h
    | 2, h => simp [bv] at h
    | 3, h => simp [bv] at h
    | 4, h => simp [bv] at h
    | n + 5, h => simp at h
  · cases z with
    | none => exact hz
    | some z =>
      have hr := hz.1
      unfold Row at hr
      simp only [World.cell?, hr] at hc
      have : (#[.int .i64 z.n, .int .i64 (z.ops : Int), .bool z.blown] : Array Value)[o]? = some (bv x) := by simpa using hc
      match o, this with
      | 0, h => simp [bv] at h
      | 1, h => simp [bv] at h
      | 2, h => simp [bv] at h
      | n + 3, h => simp at h
end Go.Proofs.YthkbbcdnmdjhdaaGreat
/-! XDkG: Write. -/
namespace Go.Proofs.YthkbbcdnmdjhdaaGreat
open Go.RowKit Dk Go.WideShapes Go.ChangeMaps Go.MapKept
set_option maxRecDepth 100000
set_option maxHeartbeats 4000000
attribute [local go_sem] min_int2 max_int2 bstr_toList

namespace Dk
def writes (z : Option FS) (d : DS) (p : Path) (b : List UInt8) : Nat × Option FS × DS :=
  if (begins z d [p]).1 ≠ 0 then begins z d [p]
  else if 262144 < b.length then (3, (begins z d [p]).2)
  else if d.most + olen p d.fs < tot d.fs + b.length ∨ 4096 < (if (get p d.fs).isSome then d.fs.length else d.fs.length + 1) then (8, (begins z d [p]).2)
  else (0, (begins z d [p]).2.1, { (begins z d [p]).2.2 with fs := put p ⟨b, false⟩ d.fs })
end Dk
theorem begins_most (z : Option FS) (d : DS) (ps : List Path) : (begins z d ps).2.2.most = d.most := by
  unfold begins; repeat (first | rfl | split)
theorem begins_off (z : Option FS) (d : DS) (ps : List Path) : (begins z d ps).2.2.off = d.off := by
  unfold begins; repeat (first | rfl | split)
/-- What an operation leaves. -/
def SimOut (s : Nat) (fp : Option Nat) (S : Nat → Prop) (w : World) (r : Nat × Option FS × DS) (e : Ending) (w' : World) : Prop :=
  e = .returned (.int .i64 (r.1 : Nat)) ∧ FzAt w' fp r.2.1 ∧ SimAt w' s fp r.2.2 (Grow S w w') ∧ Chg (fun b => S b ∨ fp = some b) w w'
theorem Raw.simAt {w w' : World} {s m : Nat} {fp : Option Nat} {es : L Ent} {d : DS} {S : Nat → Prop} (h : Raw w' s fp m es d) (h1 : ∀ b, Foot s m es b → Grow S w w' b) (h2 : ∀ b, S b → b < w.heap.size) (h3 : ∀ b, fp = some b → ¬ S b ∧ b < w.heap.size) (hs : w.heap.size ≤ w'.heap.size) : SimAt w' s fp d (Grow S w w') :=
  ⟨m, es, h, h1, fun b hb => by rcases hb with hb | hb; exact Nat.lt_of_lt_of_le (h2 b hb) hs; exact hb.2, fun b hb hg => by
    obtain ⟨h4, h5⟩ := h3 b hb
    rcases hg with hg | hg
    · exact h4 hg
    · omega⟩
theorem FzAt.lt {w : World} {fp : Option Nat} {z : Option FS} (h : FzAt w fp z) (b : Nat) (hb : fp = some b) : b < w.heap.size := by
  subst hb
  cases z with
  | none => exact h.elim
  | some z => exact h.1.lt
/-- A new file at p. -/
theorem Raw.put {w w' : World} {s m q : Nat} {fp : Option Nat} {es : L Ent} {d : DS} {u : Value} {f : Fil} (p : Path) (h : Raw w s fp m es d) (hq : Row w q 174 #[u, .bool f.sure]) (hu : Own w 0 5 u (bvs f.b))
    (hn : ∀ e ∈ es, EApart ⟨q, u, f⟩ e.2 ∧ EApart e.2 ⟨q, u, f⟩) (hm : FMap w' m (Dk.put p q (qs es))) (hg : w.grownBy w' (some m)) : Raw w' s fp m (Dk.put p ⟨q, u, f⟩ es) { d with fs := Dk.put p f d.fs } := by
  have hc : Chg (fun b => b = m) w w' := (Chg.refl _ w).grown hg (fun k hk => .inl (Option.some.inj hk).symm)
  have hs := h.sim
  have hfile : ∀ e ∈ Dk.put p (⟨q, u, f⟩ : Ent) es, FileAt w e.2 := fun e he => by
    rcases mem_put.1 he with rfl | ⟨he, -⟩
    · exact ⟨hq, hu⟩
    · exact h.file e he
  refine ⟨h.row.chg hc hs.1, ?_, put_up h.up, fun e he => (hfile e he).chg hc (fun x => h.map.ne (hfile e he).1 x) (fun b hb x => h.map.own (hfile e he).2 (by rw [hb, x])), fun e he e' he' hne => ?_, ?_, h.nb, h.nm⟩
  · have : qs (Dk.put p ⟨q, u, f⟩ es) = Dk.put p q (qs es) := (put_mapv (fun x : Ent => x.q) p ⟨q, u, f⟩ es).symm
    rw [this]; exact hm
  · rcases mem_put.1 he with rfl | ⟨he, -⟩ <;> rcases mem_put.1 he' with rfl | ⟨he', -⟩
    · exact absurd rfl hne
    · exact (hn e' he').1
    · exact (hn e he).2
    · exact h.apart e he e' he' hne
  · show Dk.put p f d.fs = _
    rw [h.fs]
    exact put_mapv (fun x : Ent => x.f) p ⟨q, u, f⟩ es
theorem EApart.new {w : World} {e : Ent} {q B : Nat} {u : Value} {f : Fil} (he : FileAt w e) (hB : w.heap.size ≤ B) (hq : B ≤ q) (hu : ∀ k, u.ownBlock = some k → B ≤ k) : EApart ⟨q, u, f⟩ e ∧ EApart e ⟨q, u, f⟩ := by
  have h1 := he.1.lt
  have h2 : ∀ k, e.v.ownBlock = some k → k < w.heap.size := fun k hk => he.2.lt hk
  have h3 : ∀ k, e.v.ownBlock = some k → u.ownBlock ≠ some k := fun k hk x => by
    have := h2 k hk
    have := hu k x
    omega
  refine ⟨⟨by show q ≠ e.q; omega, ?_⟩, ⟨by show e.q ≠ q; omega, ?_⟩⟩
  · cases hk : u.ownBlock with
    | none => exact .inl rfl
    | some k =>
      right
      intro x
      exact h3 k (Eq.symm x) hk
  · cases hk : e.v.ownBlock with
    | none => exact .inl rfl
    | some k =>
      right
      intro x
      exact h3 k hk x.symm
theorem write_any (s : Nat) (fp : Option Nat) (z : Option FS) (d : DS) (S : Nat → Prop) (p : Path) (v : Value) (b : List UInt8) (w : World) (h : SimAt w s fp d S) (hz : FzAt w fp z) (hzo : zops z < 1099511627776)
    (hp : p.length ≤ maxLen) (hv : Bytes w v b) (hb : b.length ≤ 140737488351232) (ht : tot d.fs ≤ 1099511627776) (hn : d.fs.length ≤ 4096) :
    Calls Tryz.prog 45 #[.pointer (some ⟨s, 0, none⟩), .string (bstr p), v] w (SimOut s fp S w (writes z d p b)) := by
  obtain ⟨va, vc, rfl⟩ := hv.slice
  obtain ⟨m, es, h, hS1, hS2, hS3⟩ := h
  have H := Lib.hid h
  have HZ := Lib.hid hz
  have HV := Lib.hid hv
  have HS := Lib.hid (And.intro hS1 (And.intro hS2 (show ∀ b, fp = some b → ¬ S b ∧ b < w.heap.size from fun b hb => ⟨hS3 b hb, hz.lt b hb⟩)))
  have HP := Lib.hid hp
  have o1 := Strs.one w p
  have x1 : Ext w (w.alloc (.cells #[.string (bstr p)] 9)) := (Ext.refl w).alloc (Nat.le_refl _) _
  have c1 : Chg (fun _ => False) w (w.alloc (.cells #[.string (bstr p)] 9)) := Chg.of_ext x1 _
  have HA := Lib.hid (And.intro o1 (And.intro (h.chg c1 (fun _ _ h => h)) (And.intro (hz.chg c1 (fun _ _ h => h)) (And.intro x1 (hv.ext x1)))))
  clear h hz hv hp o1 x1 c1 hS1 hS2 hS3
  go_enter Tryz.func45, Tryz.ntmps45
  go_wp2_with fail
  refine (begin_any s m fp z es d [p] _ _ HA.out.2.1 HA.out.2.2.1 hzo (by simp) (fun q hq => by rw [List.mem_singleton.1 hq]; exact HP.out) HA.out.1).mono ?_; rintro e w2 ⟨rfl, hz2, h2, hg2, -⟩
  have HV2 := Lib.hid (Bytes.keep HA.out.2.2.2.2 hg2 (HA.out.2.1.nobytes HA.out.2.2.1))
  have HG2 := Lib.hid (Chg.after HA.out.2.2.2.1 hg2)
  have HZ2 := Lib.hid hz2
  have H2 := Lib.hid h2
  clear hz2 h2 hg2
  have hfs2 := begins_fs z d [p]
  have hmo2 := begins_most z d [p]
  obtain ⟨n, hnn⟩ : ∃ n, (begins z d [p]).1 = n := ⟨_, rfl⟩
  obtain ⟨z2, hzz⟩ : ∃ z2, (begins z d [p]).2.1 = z2 := ⟨_, rfl⟩
  obtain ⟨d2, hdd⟩ : ∃ d2, (begins z d [p]).2.2 = d2 := ⟨_, rfl⟩
  have HB := Lib.hid (show begins z d [p] = (n, z2, d2) by rw [← hnn, ← hzz, ← hdd])
  rw [hzz] at HZ2
  rw [hdd] at H2 hfs2 hmo2
  rw [hnn]
  have HFS := Lib.hid (And.intro hfs2 hmo2)
  clear hnn hzz hdd hfs2 hmo2
  by_cases h0 : n = 0
  case neg =>
    have q1 : ((n : Int) != 0) = true := by simp; omega
    have HW : Hid (writes z d p b = (n, z2, d2)) := Lib.hid (by unfold writes; rw [HB.out, if_pos h0])
    clear h0
    go_wp2_with fail
    go_ret
    rw [HW.out]
    exact ⟨rfl, HZ2.out, H2.out.simAt (fun b hb => .inl (HS.out.1 b hb)) HS.out.2.1 HS.out.2.2 HG2.out.size, HG2.out.mono fun b _ hb => by
      rcases hb with rfl | hb
      · exact .inl (HS.out.1 _ (.inl rfl))
      · exact .inr hb⟩
  subst h0
  have q1 : (((0 : Nat) : Int) != 0) = false := rfl
  by_cases hlong : 262144 < b.length
  · have q2 : (262144 : Int) < (b.length : Int) := by omega
    have HW : Hid (writes z d p b = (3, z2, d2)) := Lib.hid (by unfold writes; rw [HB.out, if_neg (by simp), if_pos hlong])
    clear hlong
    go_wp2_with fail
    go_ret
    rw [HW.out]
    exact ⟨rfl, HZ2.out, H2.out.simAt (fun b hb => .inl (HS.out.1 b hb)) HS.out.2.1 HS.out.2.2 HG2.out.size, HG2.out.mono fun b _ hb => by
      rcases hb with rfl | hb
      · exact .inl (HS.out.1 _ (.inl rfl))
      · exact .inr hb⟩
  have q2 : (b.length : Int) ≤ 262144 := by omega
  have c2 := H2.out.row.cell (i := 2) (v := .map (some m)) rfl
  have hl := H2.out.map.look p HP.out
  rw [qs_get] at hl
  have hlen := World.ownsMap.len H2.out.map Tryz.underlying112 3
  rw [Dm_size, show (qs es).length = es.length from mapv_length _ _] at hlen
  have hel : d.fs.length = es.length := by rw [H.out.fs]; exact mapv_length _ _
  have hn2 : es.length ≤ 4096 := by omega
  have HEL := Lib.hid hel
  have HW0 : Hid (writes z d p b = if d.most + olen p d.fs < tot d.fs + b.length ∨ 4096 < (if (get p d.fs).isSome then d.fs.length else d.fs.length + 1) then (8, z2, d2) else (0, z2, { d2 with fs := put p ⟨b, false⟩ d.fs })) := Lib.hid (by unfold writes; rw [HB.out, if_neg (by simp), if_neg hlong])
  clear hlong hel
  have rest : ∀ (w3 : World) (ol mn : Nat), olen p d.fs = ol → (if (get p d.fs).isSome then d.fs.length else d.fs.length + 1) = mn → Ext w2 w3 → True := fun _ _ _ _ _ _ => trivial
  clear rest
  cases hx : get p es with
  | none =>
    rw [hx] at hl
    have hg : get p d.fs = none := by rw [H.out.fs, fils_get, hx]; rfl
    have hol : olen p d.fs = 0 := by unfold olen; rw [hg]
    have HOL := Lib.hid hol
    have HMN : Hid ((if (get p d.fs).isSome then d.fs.length else d.fs.length + 1) = es.length + 1) := Lib.hid (by rw [hg, HEL.out]; rfl)
    have HX := Lib.hid hx
    clear hx hg hol
    go_wp2_with fail
    have X3 := Lib.hid (Ext.refl w2)
    have H3 := Lib.hid (H2.out.chg (Chg.of_ext X3.out (fun _ => False)) (fun _ _ h => h))
    have HV3 := Lib.hid (Cells.ext HV2.out X3.out)
    obtain ⟨M, hM⟩ : ∃ M, d2.most = M := ⟨_, rfl⟩
    obtain ⟨T, hT⟩ : ∃ T, tot d.fs = T := ⟨_, rfl⟩
    obtain ⟨Lb, hLb⟩ : ∃ Lb, b.length = Lb := ⟨_, rfl⟩
    have hole : 0 ≤ T := by rw [← hT, ← HOL.out]; exact olen_le _ _
    obtain ⟨r0, hr0⟩ : ∃ r0, T = r0 + 0 := ⟨T - 0, by omega⟩
    obtain ⟨r1, hr1⟩ : ∃ r1, r1 = r0 + Lb := ⟨_, rfl⟩
    have hMm : M ≤ 4194304 := by rw [← hM]; exact H2.out.nm
    have e1 : IntKind.i64.wrap (r0 : Int) = (r0 : Int) := by rw [IntKind.wrap_i64]; omega
    have e1' : (T : Int) - 0 = (r0 : Int) := by omega
    have e2 : IntKind.i64.wrap (r1 : Int) = (r1 : Int) := by rw [IntKind.wrap_i64]; omega
    have e2' : (r0 : Int) + (Lb : Int) = (r1 : Int) := by omega
    have USED : ∀ W, Ext w2 W → Calls Tryz.prog 84 #[.pointer (some ⟨s, 0, none⟩)] W fun e w' => e = .returned (.int .i64 (T : Int)) ∧ Hid (Ext w2 w') ∧ w'.cell? ⟨s, 0, none⟩ = some (.int .i64 (M : Int)) := fun W hW =>
      (used_any s m fp es d2 W (H3.out.chg (Chg.of_ext hW (fun _ => False)) (fun _ _ h => h)) (by rw [HFS.out.1]; exact ht)).mono fun e w' ⟨h1, h2⟩ => ⟨by rw [h1, HFS.out.1, hT], Lib.hid (Ext.trans hW h2), (by
        have := (H3.out.chg (Chg.of_ext (Ext.trans hW h2) (fun _ => False)) (fun _ _ h => h)).row.cell (i := 0) (v := .int .i64 d2.most) rfl
        rw [hM] at this
        exact this)⟩
    have USE := Lib.hid USED
    have x0 : Ext w2 (w2).drew := Ext.of_drawn _ 1
    have c0 := H3.out.row.cell (i := 0) (v := .int .i64 d2.most) rfl
    rw [hM] at c0
    have c0d : (w2).drew.cell? ⟨s, 0, none⟩ = some (.int .i64 (M : Int)) := c0
    rw [hLb]
    have HT := Lib.hid (And.intro hM (And.intro hT (And.intro hLb (And.intro hr0 hr1))))
    clear USED hM hT hLb hole hr0 hr1 hl hlen c2
    by_cases hA : M < r1
    · have qA : decide (M < r1) = true := by simpa using hA
      have HW : Hid (writes z d p b = (8, z2, d2)) := Lib.hid (by
        rw [HW0.out, if_pos]
        left
        rw [HOL.out, ← HFS.out.2, HT.out.1, HT.out.2.1, HT.out.2.2.1]
        have := HT.out.2.2.2
        omega)
      clear hA
      have hS : (fun w' : World => w'.cell? ⟨s, 0, none⟩ = some (.int .i64 (M : Int))) (w2).drew := c0d
      have hlS : ∀ wl : World, (fun w' : World => w'.cell? ⟨s, 0, none⟩ = some (.int .i64 (M : Int))) wl → wl.cell? ⟨s, 0, none⟩ = some (.int .i64 (M : Int)) ∧ True ∧ True ∧ True := fun wl h => ⟨h, trivial, trivial, trivial⟩
      refine wp_cutw [48, 49, 50, 51, 52, 53, 54, 55, 56, 57, 58, 59, 60, 61, 62] 63 (.bool true) (fun w8 => Ext w2 w8) ?_ ?_
      · refine wp_region_U (fun w' : World => w'.cell? ⟨s, 0, none⟩ = some (.int .i64 (M : Int))) 11 (by kernel_rfl) ?_
        refine wpU_pure (i := 0) (v := ?_) rfl (by kernel_rfl) (by kernel_rfl) (by kernel_rfl) (by decide) (fun _ _ _ h => h) (fun _ => hS) (Or.inl ⟨by rfl, fun _ _ => ?_⟩) ?_
        rotate_left
        · go_simp
          try with_reducible rfl
        try simp only [Act.put]
        refine wpU_pure (i := 2) (v := ?_) rfl (by kernel_rfl) (by kernel_rfl) (by kernel_rfl) (by decide) (fun _ _ _ h => h) (fun _ => hS) (Or.inl ⟨by rfl, fun _ _ => ?_⟩) ?_
        rotate_left
        · go_simp
          try with_reducible rfl
        try simp only [Act.put]
        refine wpU_pure (i := 4) (v := ?_) rfl (by kernel_rfl) (by kernel_rfl) (by kernel_rfl) (by decide) (fun _ _ _ h => h) (fun _ => hS) (Or.inl ⟨by rfl, fun _ _ => ?_⟩) ?_
        rotate_left
        · go_simp
          try with_reducible rfl
        try simp only [Act.put]
        refine wpU_pure (i := 5) (v := ?_) rfl (by kernel_rfl) (by kernel_rfl) (by kernel_rfl) (by decide) (fun _ _ _ h => h) (fun _ => hS) (Or.inl ⟨by rfl, fun _ _ => ?_⟩) ?_
        rotate_left
        · go_simp
          try with_reducible rfl
        try simp only [Act.put]
        refine wpU_pure (i := 7) (v := ?_) rfl (by kernel_rfl) (by kernel_rfl) (by kernel_rfl) (by decide) (fun _ _ _ h => h) (fun _ => hS) (Or.inl ⟨by rfl, fun _ _ => ?_⟩) ?_
        rotate_left
        · go_simp
          try with_reducible rfl
        try simp only [Act.put]
        refine wpU_pure (i := 8) (v := ?_) rfl (by kernel_rfl) (by kernel_rfl) (by kernel_rfl) (by decide) (fun _ _ _ h => h) (fun _ => hS) (Or.inl ⟨by rfl, fun _ _ => ?_⟩) ?_
        rotate_left
        · go_simp
          try with_reducible rfl
        try simp only [Act.put]
        refine wpU_pure (i := 9) (v := ?_) rfl (by kernel_rfl) (by kernel_rfl) (by kernel_rfl) (by decide) (fun _ _ _ h => h) (fun _ => hS) (Or.inl ⟨by rfl, fun _ _ => ?_⟩) ?_
        rotate_left
        · go_simp
          try with_reducible rfl
        try simp only [Act.put]
        refine wpU_load (i := 10) (v := ?_) rfl (by kernel_rfl) (by kernel_rfl) (by kernel_rfl) (by decide) (by kernel_rfl) (by kernel_rfl) (fun _ _ _ h => h) hS (Or.inl ⟨by rfl, fun wl hl => ?_⟩) ?_
        rotate_left
        · have hl2 := hlS wl hl
          obtain ⟨l1, l2, l3, l4⟩ := hl2
          go_simp
          try with_reducible rfl
        try simp only [Act.put]
        refine wpU_all [1] (by kernel_rfl) (by simp) ?_
        refine ReadyU.cons rfl (fun K hK => ?_) (ReadyU.nil)
        go_simp
        refine (USE.out _ x0).mono ?_; rintro e w4 ⟨rfl, hx4, c4⟩
        go_simp
        refine hK.out _ _ (fun _ => c4) ?_
        clear hK K
        have hS := c4
        refine wpU_pure (i := 3) (v := ?_) rfl (by kernel_rfl) (by kernel_rfl) (by kernel_rfl) (by decide) (fun _ _ _ h => h) (fun _ => hS) (Or.inl ⟨by rfl, fun _ _ => ?_⟩) ?_
        rotate_left
        · go_simp
          try with_reducible rfl
        try simp only [Act.put]
        refine wpU_pure (i := 6) (v := ?_) rfl (by kernel_rfl) (by kernel_rfl) (by kernel_rfl) (by decide) (fun _ _ _ h => h) (fun _ => hS) (Or.inl ⟨by rfl, fun _ _ => ?_⟩) ?_
        rotate_left
        · go_simp
          try with_reducible rfl
        try simp only [Act.put]
        refine wpU_all [11] (by kernel_rfl) (by simp) ?_
        refine ReadyU.cons rfl (fun K hK => ?_) (ReadyU.nil)
        go_simp
        refine hK.out _ _ (fun h => Bool.noConfusion (show true = false from h)) ?_
        clear hK K
        refine wpU_pure (i := 12) (v := ?_) rfl (by kernel_rfl) (by kernel_rfl) (by kernel_rfl) (by decide) (fun _ _ _ h => h) (fun h => Bool.noConfusion (show true = false from h)) (Or.inl ⟨by rfl, fun _ _ => ?_⟩) ?_
        rotate_left
        · go_simp
          try with_reducible rfl
        try simp only [Act.put]
        refine wpU_pure (i := 13) (v := undef) rfl (by kernel_rfl) (by kernel_rfl) (by kernel_rfl) (by decide) (fun _ _ _ h => h) (fun h => Bool.noConfusion (show true = false from h)) (Or.inr ⟨by kernel_rfl, rfl⟩) ?_
        try simp only [Act.put]
        refine wpU_pure (i := 14) (v := undef) rfl (by kernel_rfl) (by kernel_rfl) (by kernel_rfl) (by decide) (fun _ _ _ h => h) (fun h => Bool.noConfusion (show true = false from h)) (Or.inr ⟨by kernel_rfl, rfl⟩) ?_
        try simp only [Act.put]
        refine wpU_pure (i := 15) (v := ?_) rfl (by kernel_rfl) (by kernel_rfl) (by kernel_rfl) (by decide) (fun _ _ _ h => h) (fun h => Bool.noConfusion (show true = false from h)) (Or.inl ⟨by rfl, fun _ _ => ?_⟩) ?_
        rotate_left
        · go_simp
          try with_reducible rfl
        try simp only [Act.put]
        refine wpU_done (by kernel_rfl) ?_ _
        exact cut_end hx4.out (by kernel_rfl)
      · intro us w4 h4
        have X4 := Lib.hid (Ext.trans X3.out h4)
        clear h4 hS hlS c0 c0d x0
        simp only [setAll, List.foldl_cons, List.foldl_nil, List.set_cons_zero, List.set_cons_succ]
        go_wp2_with fail
        go_ret
        rw [HW.out]
        have H4 := H2.out.chg (Chg.of_ext X4.out (fun _ => False)) (fun _ _ h => h)
        have hg := HG2.out.trans (Chg.of_ext X4.out _)
        exact ⟨rfl, HZ2.out.chg (Chg.of_ext X4.out (fun _ => False)) (fun _ _ h => h), H4.simAt (fun b hb => .inl (HS.out.1 b hb)) HS.out.2.1 HS.out.2.2 hg.size, hg.mono fun b _ hb => by
          rcases hb with rfl | hb
          · exact .inl (HS.out.1 _ (.inl rfl))
          · exact .inr hb⟩
    · by_cases hmx : 4096 < es.length + 1
      · have HW : Hid (writes z d p b = (8, z2, d2)) := Lib.hid (by
          rw [HW0.out, if_pos]
          right
          rw [HMN.out]; exact hmx)
        have qm : decide (4096 < (es.length : Int) + 1) = true := by simp; omega
        have qm' : (4096 : Int) < (es.length : Int) + 1 := by omega
        have qA : decide (M < r1) = false := by simpa using hA
        clear hA hmx
        go_region_held3 (fun w' : World => w'.cell? ⟨s, 0, none⟩ = some (.int .i64 (M : Int))) (assumption) (first | (go_at_call 84; refine (USE.out _ x0).mono ?_; rintro e w4 ⟨rfl, hx4, c4⟩))
        have X4 := Lib.hid (Ext.trans X3.out hx4.out)
        clear hx4 c0 c0d x0 c4
        go_wp2_with fail
        go_ret
        rw [HW.out]
        have H4 := H2.out.chg (Chg.of_ext X4.out (fun _ => False)) (fun _ _ h => h)
        have hg := HG2.out.trans (Chg.of_ext X4.out _)
        exact ⟨rfl, HZ2.out.chg (Chg.of_ext X4.out (fun _ => False)) (fun _ _ h => h), H4.simAt (fun b hb => .inl (HS.out.1 b hb)) HS.out.2.1 HS.out.2.2 hg.size, hg.mono fun b _ hb => by
          rcases hb with rfl | hb
          · exact .inl (HS.out.1 _ (.inl rfl))
          · exact .inr hb⟩
      · have HW : Hid (writes z d p b = (0, z2, { d2 with fs := Dk.put p ⟨b, false⟩ d.fs })) := Lib.hid (by
          rw [HW0.out, if_neg]
          rw [HOL.out, ← HFS.out.2, HT.out.1, HT.out.2.1, HT.out.2.2.1, HMN.out]
          have := HT.out.2.2.2
          omega)
        have qm : decide (4096 < (es.length : Int) + 1) = false := by simp; omega
        have qm' : (es.length : Int) + 1 ≤ 4096 := by omega
        have qA : decide (M < r1) = false := by simpa using hA
        clear hA hmx
        go_region_held3 (fun w' : World => w'.cell? ⟨s, 0, none⟩ = some (.int .i64 (M : Int))) (assumption) (first | (go_at_call 84; refine (USE.out _ x0).mono ?_; rintro e w4 ⟨rfl, hx4, c4⟩))
        have X4 := Lib.hid (Ext.trans X3.out hx4.out)
        clear hx4 c0 c0d x0 c4
        have H4 := Lib.hid (H2.out.chg (Chg.of_ext X4.out (fun _ => False)) (fun _ _ h => h))
        have HV4 := Lib.hid (Cells.ext HV2.out X4.out)
        rw [HT.out.2.2.1] at HV4
        have c2 := H4.out.row.cell (i := 2) (v := .map (some m)) rfl
        have qn : ∀ W : World, (binOp .eql 112 (.map (some m)) (.map none)).run Tryz.prog W = .ok (.bool (some m).isNone) W := fun W => run_eql_map_nil W 112 _ _ (some m) Tryz.underlying112
        have CL : ∀ W, Ext w4 W → Calls Tryz.prog 85 #[.slice va Lb vc] W fun e w5 => ∃ ua uc w6, e = .returned (.slice ua Lb uc) ∧ w5.cell? ⟨s, 2, none⟩ = some (.map (some m)) ∧ (w5.alloc (.cells #[.slice ua Lb uc, .bool false] 174)).cell? ⟨s, 2, none⟩ = some (.map (some m)) ∧
            (Instr.mapUpdate 112 (.map (some m)) (.string (bstr p)) (.pointer (some ⟨w5.heap.size, 0, none⟩))).run Tryz.prog (w5.alloc (.cells #[.slice ua Lb uc, .bool false] 174)) = .ok () w6 ∧ w6.cell? ⟨s, 2, none⟩ = some (.map (some m)) ∧
            Hid (SimOut s fp S w (0, z2, { d2 with fs := Dk.put p ⟨b, false⟩ d.fs }) (.returned (.int .i64 0)) w6) := fun W hW =>
          (bclone_own _ b (by omega) W (HT.out.2.2.1 ▸ HV4.out.ext hW)).mono fun e w5 ⟨u, h1, h2, h3⟩ => by
            obtain ⟨ua, uc, hu⟩ := Own.slice' h2
            rw [bvs_len, HT.out.2.2.1] at hu
            subst hu
            obtain ⟨u, hu⟩ : ∃ u, Value.slice ua Lb uc = u := ⟨_, rfl⟩
            rw [hu] at h1 h2
            have x5 := Ext.trans hW h3
            have x6 : Ext w5 (w5.alloc (.cells #[u, .bool false] 174)) := (Ext.refl w5).alloc (Nat.le_refl _) _
            have x7 := Ext.trans x5 x6
            have h7 := H4.out.chg (Chg.of_ext x7 (fun _ => False)) (fun _ _ h => h)
            have hlq : (qs es).length = es.length := mapv_length _ _
            obtain ⟨w6, k1, k2, k3, k4⟩ := h7.map.put p HP.out w5.heap.size (by rw [hlq]; omega)
            have hb4 : w4.heap.size ≤ W.heap.size := hW.size
            have hB : w.heap.size ≤ w4.heap.size := Nat.le_trans HG2.out.size X4.out.size
            have hr := h7.put (f := ⟨b, false⟩) (u := u) p (Row.new w5 174 #[u, .bool false]) ((h2.ext x6).mono (Nat.zero_le _)) (fun e he => EApart.new (B := W.heap.size) (H4.out.file e he) hb4 h3.size (fun k hk => h2.block k hk)) k2 k3
            have hs6 : (w5.alloc (.cells #[u, .bool false] 174)).heap.size = w5.heap.size + 1 := by simp
            have hg : Chg (fun b => b = s ∨ fp = some b ∨ b = m) w w6 := ((HG2.out.mono fun b _ hb => hb.elim .inl fun h => .inr (.inl h)).trans (Chg.of_ext (Ext.trans X4.out x7) _)).grown k3 (fun k hk => .inl (.inr (.inr (Option.some.inj hk).symm)))
            rw [← hu] at h1
            refine ⟨ua, uc, w6, h1, x5.cell c2, hu ▸ x7.cell c2, hu ▸ k1, hr.row.cell (i := 2) (v := .map (some m)) rfl, Lib.hid ⟨rfl, ?_, ?_, ?_⟩⟩
            · have hz7 := HZ2.out.chg (Chg.of_ext (Ext.trans X4.out x7) (fun _ => False)) (fun _ _ h => h)
              exact hz7.chg (S := fun b => b = m) ((Chg.refl _ _).grown k3 (fun k hk => .inl (Option.some.inj hk).symm)) (fun b hb e => h7.fuse hz7 m (.inr (.inl rfl)) (by rw [hb, e]))
            · rw [HFS.out.1] at hr
              refine hr.simAt (fun b hb => ?_) HS.out.2.1 HS.out.2.2 hg.size
              rcases hb with rfl | rfl | ⟨e, he, hb⟩
              · exact .inl (HS.out.1 _ (.inl rfl))
              · exact .inl (HS.out.1 _ (.inr (.inl rfl)))
              · rcases mem_put.1 he with rfl | ⟨he, -⟩
                · rcases hb with rfl | hb
                  · refine .inr ⟨?_, ?_⟩
                    · show w.heap.size ≤ w5.heap.size; have := h3.size; omega
                    · show w5.heap.size < w6.heap.size; rw [k4, hs6]; omega
                  · have l1 := h2.block _ hb
                    have l2 := h2.lt hb
                    exact .inr ⟨by omega, by rw [k4, hs6]; omega⟩
                · exact .inl (HS.out.1 _ (.inr (.inr ⟨e, he, hb⟩)))
            · exact hg.mono fun b _ hb => by
                rcases hb with rfl | hb | rfl
                · exact .inl (HS.out.1 _ (.inl rfl))
                · exact .inr hb
                · exact .inl (HS.out.1 _ (.inr (.inl rfl)))
        have CLH := Lib.hid CL
        clear CL
        go_wp2_with fail
        have x0 : Ext w4 w4.drew := Ext.of_drawn _ 1
        have c2d : (fun w' : World => w'.cell? ⟨s, 2, none⟩ = some (.map (some m))) w4.drew := c2
        go_region_held3 (fun w' : World => w'.cell? ⟨s, 2, none⟩ = some (.map (some m))) (assumption) (first | (go_at_call 85; refine (CLH.out _ x0).mono ?_; rintro e w5 ⟨ua, uc, w6, rfl, k1, k2, k3, k4, hfin⟩))
        clear k1 k2 k3 k4 c2 c2d qn
        go_wp2_with fail
        go_ret
        rw [HW.out]
        exact hfin.out
  | some x =>
    rw [hx] at hl
    have hg : get p d.fs = some x.f := by rw [H.out.fs, fils_get, hx]; rfl
    have hol : olen p d.fs = x.f.b.length := by unfold olen; rw [hg]
    have HOL := Lib.hid hol
    have HMN : Hid ((if (get p d.fs).isSome then d.fs.length else d.fs.length + 1) = es.length) := Lib.hid (by rw [hg, HEL.out]; rfl)
    have hfile := (H2.out.file _ (get_mem hx))
    have c5 := hfile.1.cell (i := 0) (v := x.v) rfl
    obtain ⟨xa, xc, hv⟩ := Own.slice' hfile.2
    rw [bvs_len] at hv
    rw [hv] at c5
    have HX := Lib.hid hx
    obtain ⟨n0, hn0⟩ : ∃ n0, x.f.b.length = n0 := ⟨_, rfl⟩
    rw [hn0] at c5
    have HN0 := Lib.hid hn0
    have S0 : (fun w' : World => w'.cell? ⟨x.q, 0, none⟩ = some (.slice xa n0 xc) ∧ w'.cell? ⟨s, 2, none⟩ = some (.map (some m)) ∧ (Builtin.len_ #[112] 3 #[.map (some m)]).run Tryz.prog w' = .ok (.int .i64 es.length) w') w2.drew := ⟨c5, c2, by
      have := World.ownsMap.len (H2.out.chg (Chg.of_ext (Ext.of_drawn w2 1) (fun _ => False)) (fun _ _ h => h)).map Tryz.underlying112 3
      rw [Dm_size, show (qs es).length = es.length from mapv_length _ _] at this
      exact this⟩
    clear hx hg hol hv hfile hn0
    go_wp2_with fail
    go_region_held3 (fun w' : World => w'.cell? ⟨x.q, 0, none⟩ = some (.slice xa n0 xc) ∧ w'.cell? ⟨s, 2, none⟩ = some (.map (some m)) ∧ (Builtin.len_ #[112] 3 #[.map (some m)]).run Tryz.prog w' = .ok (.int .i64 es.length) w') (assumption) (fail)
    have X3 := Lib.hid (Ext.of_drawn w2 1)
    change Exit.then _ _ _ _ (w2.drewN 1)
    generalize w2.drewN 1 = w3 at X3 ⊢
    rw [HN0.out] at HOL
    go_wp2_with fail
    have H3 := Lib.hid (H2.out.chg (Chg.of_ext X3.out (fun _ => False)) (fun _ _ h => h))
    have HV3 := Lib.hid (Cells.ext HV2.out X3.out)
    obtain ⟨M, hM⟩ : ∃ M, d2.most = M := ⟨_, rfl⟩
    obtain ⟨T, hT⟩ : ∃ T, tot d.fs = T := ⟨_, rfl⟩
    obtain ⟨Lb, hLb⟩ : ∃ Lb, b.length = Lb := ⟨_, rfl⟩
    have hole : n0 ≤ T := by rw [← hT, ← HOL.out]; exact olen_le _ _
    obtain ⟨r0, hr0⟩ : ∃ r0, T = r0 + n0 := ⟨T - n0, by omega⟩
    obtain ⟨r1, hr1⟩ : ∃ r1, r1 = r0 + Lb := ⟨_, rfl⟩
    have hMm : M ≤ 4194304 := by rw [← hM]; exact H2.out.nm
    have e1 : IntKind.i64.wrap (r0 : Int) = (r0 : Int) := by rw [IntKind.wrap_i64]; omega
    have e1' : (T : Int) - (n0 : Int) = (r0 : Int) := by omega
    have e2 : IntKind.i64.wrap (r1 : Int) = (r1 : Int) := by rw [IntKind.wrap_i64]; omega
    have e2' : (r0 : Int) + (Lb : Int) = (r1 : Int) := by omega
    have USED : ∀ W, Ext w3 W → Calls Tryz.prog 84 #[.pointer (some ⟨s, 0, none⟩)] W fun e w' => e = .returned (.int .i64 (T : Int)) ∧ Hid (Ext w3 w') ∧ w'.cell? ⟨s, 0, none⟩ = some (.int .i64 (M : Int)) := fun W hW =>
      (used_any s m fp es d2 W (H3.out.chg (Chg.of_ext hW (fun _ => False)) (fun _ _ h => h)) (by rw [HFS.out.1]; exact ht)).mono fun e w' ⟨h1, h2⟩ => ⟨by rw [h1, HFS.out.1, hT], Lib.hid (Ext.trans hW h2), (by
        have := (H3.out.chg (Chg.of_ext (Ext.trans hW h2) (fun _ => False)) (fun _ _ h => h)).row.cell (i := 0) (v := .int .i64 d2.most) rfl
        rw [hM] at this
        exact this)⟩
    have USE := Lib.hid USED
    have x0 : Ext w3 (w3).drew := Ext.of_drawn _ 1
    have c0 := H3.out.row.cell (i := 0) (v := .int .i64 d2.most) rfl
    rw [hM] at c0
    have c0d : (w3).drew.cell? ⟨s, 0, none⟩ = some (.int .i64 (M : Int)) := c0
    rw [hLb]
    have HT := Lib.hid (And.intro hM (And.intro hT (And.intro hLb (And.intro hr0 hr1))))
    clear USED hM hT hLb hole hr0 hr1 hl hlen c2 c5 S0
    by_cases hA : M < r1
    · have qA : decide (M < r1) = true := by simpa using hA
      have HW : Hid (writes z d p b = (8, z2, d2)) := Lib.hid (by
        rw [HW0.out, if_pos]
        left
        rw [HOL.out, ← HFS.out.2, HT.out.1, HT.out.2.1, HT.out.2.2.1]
        have := HT.out.2.2.2
        omega)
      clear hA
      have hS : (fun w' : World => w'.cell? ⟨s, 0, none⟩ = some (.int .i64 (M : Int))) (w3).drew := c0d
      have hlS : ∀ wl : World, (fun w' : World => w'.cell? ⟨s, 0, none⟩ = some (.int .i64 (M : Int))) wl → wl.cell? ⟨s, 0, none⟩ = some (.int .i64 (M : Int)) ∧ True ∧ True ∧ True := fun wl h => ⟨h, trivial, trivial, trivial⟩
      refine wp_cutw [48, 49, 50, 51, 52, 53, 54, 55, 56, 57, 58, 59, 60, 61, 62] 63 (.bool true) (fun w8 => Ext w3 w8) ?_ ?_
      · refine wp_region_U (fun w' : World => w'.cell? ⟨s, 0, none⟩ = some (.int .i64 (M : Int))) 11 (by kernel_rfl) ?_
        refine wpU_pure (i := 0) (v := ?_) rfl (by kernel_rfl) (by kernel_rfl) (by kernel_rfl) (by decide) (fun _ _ _ h => h) (fun _ => hS) (Or.inl ⟨by rfl, fun _ _ => ?_⟩) ?_
        rotate_left
        · go_simp
          try with_reducible rfl
        try simp only [Act.put]
        refine wpU_pure (i := 2) (v := ?_) rfl (by kernel_rfl) (by kernel_rfl) (by kernel_rfl) (by decide) (fun _ _ _ h => h) (fun _ => hS) (Or.inl ⟨by rfl, fun _ _ => ?_⟩) ?_
        rotate_left
        · go_simp
          try with_reducible rfl
        try simp only [Act.put]
        refine wpU_pure (i := 4) (v := ?_) rfl (by kernel_rfl) (by kernel_rfl) (by kernel_rfl) (by decide) (fun _ _ _ h => h) (fun _ => hS) (Or.inl ⟨by rfl, fun _ _ => ?_⟩) ?_
        rotate_left
        · go_simp
          try with_reducible rfl
        try simp only [Act.put]
        refine wpU_pure (i := 5) (v := ?_) rfl (by kernel_rfl) (by kernel_rfl) (by kernel_rfl) (by decide) (fun _ _ _ h => h) (fun _ => hS) (Or.inl ⟨by rfl, fun _ _ => ?_⟩) ?_
        rotate_left
        · go_simp
          try with_reducible rfl
        try simp only [Act.put]
        refine wpU_pure (i := 7) (v := ?_) rfl (by kernel_rfl) (by kernel_rfl) (by kernel_rfl) (by decide) (fun _ _ _ h => h) (fun _ => hS) (Or.inl ⟨by rfl, fun _ _ => ?_⟩) ?_
        rotate_left
        · go_simp
          try with_reducible rfl
        try simp only [Act.put]
        refine wpU_pure (i := 8) (v := ?_) rfl (by kernel_rfl) (by kernel_rfl) (by kernel_rfl) (by decide) (fun _ _ _ h => h) (fun _ => hS) (Or.inl ⟨by rfl, fun _ _ => ?_⟩) ?_
        rotate_left
        · go_simp
          try with_reducible rfl
        try simp only [Act.put]
        refine wpU_pure (i := 9) (v := ?_) rfl (by kernel_rfl) (by kernel_rfl) (by kernel_rfl) (by decide) (fun _ _ _ h => h) (fun _ => hS) (Or.inl ⟨by rfl, fun _ _ => ?_⟩) ?_
        rotate_left
        · go_simp
          try with_reducible rfl
        try simp only [Act.put]
        refine wpU_load (i := 10) (v := ?_) rfl (by kernel_rfl) (by kernel_rfl) (by kernel_rfl) (by decide) (by kernel_rfl) (by kernel_rfl) (fun _ _ _ h => h) hS (Or.inl ⟨by rfl, fun wl hl => ?_⟩) ?_
        rotate_left
        · have hl2 := hlS wl hl
          obtain ⟨l1, l2, l3, l4⟩ := hl2
          go_simp
          try with_reducible rfl
        try simp only [Act.put]
        refine wpU_all [1] (by kernel_rfl) (by simp) ?_
        refine ReadyU.cons rfl (fun K hK => ?_) (ReadyU.nil)
        go_simp
        refine (USE.out _ x0).mono ?_; rintro e w4 ⟨rfl, hx4, c4⟩
        go_simp
        refine hK.out _ _ (fun _ => c4) ?_
        clear hK K
        have hS := c4
        refine wpU_pure (i := 3) (v := ?_) rfl (by kernel_rfl) (by kernel_rfl) (by kernel_rfl) (by decide) (fun _ _ _ h => h) (fun _ => hS) (Or.inl ⟨by rfl, fun _ _ => ?_⟩) ?_
        rotate_left
        · go_simp
          try with_reducible rfl
        try simp only [Act.put]
        refine wpU_pure (i := 6) (v := ?_) rfl (by kernel_rfl) (by kernel_rfl) (by kernel_rfl) (by decide) (fun _ _ _ h => h) (fun _ => hS) (Or.inl ⟨by rfl, fun _ _ => ?_⟩) ?_
        rotate_left
        · go_simp
          try with_reducible rfl
        try simp only [Act.put]
        refine wpU_all [11] (by kernel_rfl) (by simp) ?_
        refine ReadyU.cons rfl (fun K hK => ?_) (ReadyU.nil)
        go_simp
        refine hK.out _ _ (fun h => Bool.noConfusion (show true = false from h)) ?_
        clear hK K
        refine wpU_pure (i := 12) (v := ?_) rfl (by kernel_rfl) (by kernel_rfl) (by kernel_rfl) (by decide) (fun _ _ _ h => h) (fun h => Bool.noConfusion (show true = false from h)) (Or.inl ⟨by rfl, fun _ _ => ?_⟩) ?_
        rotate_left
        · go_simp
          try with_reducible rfl
        try simp only [Act.put]
        refine wpU_pure (i := 13) (v := undef) rfl (by kernel_rfl) (by kernel_rfl) (by kernel_rfl) (by decide) (fun _ _ _ h => h) (fun h => Bool.noConfusion (show true = false from h)) (Or.inr ⟨by kernel_rfl, rfl⟩) ?_
        try simp only [Act.put]
        refine wpU_pure (i := 14) (v := undef) rfl (by kernel_rfl) (by kernel_rfl) (by kernel_rfl) (by decide) (fun _ _ _ h => h) (fun h => Bool.noConfusion (show true = false from h)) (Or.inr ⟨by kernel_rfl, rfl⟩) ?_
        try simp only [Act.put]
        refine wpU_pure (i := 15) (v := ?_) rfl (by kernel_rfl) (by kernel_rfl) (by kernel_rfl) (by decide) (fun _ _ _ h => h) (fun h => Bool.noConfusion (show true = false from h)) (Or.inl ⟨by rfl, fun _ _ => ?_⟩) ?_
        rotate_left
        · go_simp
          try with_reducible rfl
        try simp only [Act.put]
        refine wpU_done (by kernel_rfl) ?_ _
        exact cut_end hx4.out (by kernel_rfl)
      · intro us w4 h4
        have X4 := Lib.hid (Ext.trans X3.out h4)
        clear h4 hS hlS c0 c0d x0
        simp only [setAll, List.foldl_cons, List.foldl_nil, List.set_cons_zero, List.set_cons_succ]
        go_wp2_with fail
        go_ret
        rw [HW.out]
        have H4 := H2.out.chg (Chg.of_ext X4.out (fun _ => False)) (fun _ _ h => h)
        have hg := HG2.out.trans (Chg.of_ext X4.out _)
        exact ⟨rfl, HZ2.out.chg (Chg.of_ext X4.out (fun _ => False)) (fun _ _ h => h), H4.simAt (fun b hb => .inl (HS.out.1 b hb)) HS.out.2.1 HS.out.2.2 hg.size, hg.mono fun b _ hb => by
          rcases hb with rfl | hb
          · exact .inl (HS.out.1 _ (.inl rfl))
          · exact .inr hb⟩
    · have HW : Hid (writes z d p b = (0, z2, { d2 with fs := Dk.put p ⟨b, false⟩ d.fs })) := Lib.hid (by
        rw [HW0.out, if_neg]
        rw [HOL.out, ← HFS.out.2, HT.out.1, HT.out.2.1, HT.out.2.2.1, HMN.out]
        have := HT.out.2.2.2
        omega)
      have qm : decide (4096 < es.length) = false := by simp; omega
      have qA : decide (M < r1) = false := by simpa using hA
      clear hA 
      go_region_held3 (fun w' : World => w'.cell? ⟨s, 0, none⟩ = some (.int .i64 (M : Int))) (assumption) (first | (go_at_call 84; refine (USE.out _ x0).mono ?_; rintro e w4 ⟨rfl, hx4, c4⟩))
      have X4 := Lib.hid (Ext.trans X3.out hx4.out)
      clear hx4 c0 c0d x0 c4
      have H4 := Lib.hid (H2.out.chg (Chg.of_ext X4.out (fun _ => False)) (fun _ _ h => h))
      have HV4 := Lib.hid (Cells.ext HV2.out X4.out)
      rw [HT.out.2.2.1] at HV4
      have c2 := H4.out.row.cell (i := 2) (v := .map (some m)) rfl
      have qn : ∀ W : World, (binOp .eql 112 (.map (some m)) (.map none)).run Tryz.prog W = .ok (.bool (some m).isNone) W := fun W => run_eql_map_nil W 112 _ _ (some m) Tryz.underlying112
      have CL : ∀ W, Ext w4 W → Calls Tryz.prog 85 #[.slice va Lb vc] W fun e w5 => ∃ ua uc w6, e = .returned (.slice ua Lb uc) ∧ w5.cell? ⟨s, 2, none⟩ = some (.map (some m)) ∧ (w5.alloc (.cells #[.slice ua Lb uc, .bool false] 174)).cell? ⟨s, 2, none⟩ = some (.map (some m)) ∧
          (Instr.mapUpdate 112 (.map (some m)) (.string (bstr p)) (.pointer (some ⟨w5.heap.size, 0, none⟩))).run Tryz.prog (w5.alloc (.cells #[.slice ua Lb uc, .bool false] 174)) = .ok () w6 ∧ w6.cell? ⟨s, 2, none⟩ = some (.map (some m)) ∧
          Hid (SimOut s fp S w (0, z2, { d2 with fs := Dk.put p ⟨b, false⟩ d.fs }) (.returned (.int .i64 0)) w6) := fun W hW =>
        (bclone_own _ b (by omega) W (HT.out.2.2.1 ▸ HV4.out.ext hW)).mono fun e w5 ⟨u, h1, h2, h3⟩ => by
          obtain ⟨ua, uc, hu⟩ := Own.slice' h2
          rw [bvs_len, HT.out.2.2.1] at hu
          subst hu
          obtain ⟨u, hu⟩ : ∃ u, Value.slice ua Lb uc = u := ⟨_, rfl⟩
          rw [hu] at h1 h2
          have x5 := Ext.trans hW h3
          have x6 : Ext w5 (w5.alloc (.cells #[u, .bool false] 174)) := (Ext.refl w5).alloc (Nat.le_refl _) _
          have x7 := Ext.trans x5 x6
          have h7 := H4.out.chg (Chg.of_ext x7 (fun _ => False)) (fun _ _ h => h)
          have hlq : (qs es).length = es.length := mapv_length _ _
          obtain ⟨w6, k1, k2, k3, k4⟩ := h7.map.put p HP.out w5.heap.size (by rw [hlq]; omega)
          have hb4 : w4.heap.size ≤ W.heap.size := hW.size
          have hB : w.heap.size ≤ w4.heap.size := Nat.le_trans HG2.out.size X4.out.size
          have hr := h7.put (f := ⟨b, false⟩) (u := u) p (Row.new w5 174 #[u, .bool false]) ((h2.ext x6).mono (Nat.zero_le _)) (fun e he => EApart.new (B := W.heap.size) (H4.out.file e he) hb4 h3.size (fun k hk => h2.block k hk)) k2 k3
          have hs6 : (w5.alloc (.cells #[u, .bool false] 174)).heap.size = w5.heap.size + 1 := by simp
          have hg : Chg (fun b => b = s ∨ fp = some b ∨ b = m) w w6 := ((HG2.out.mono fun b _ hb => hb.elim .inl fun h => .inr (.inl h)).trans (Chg.of_ext (Ext.trans X4.out x7) _)).grown k3 (fun k hk => .inl (.inr (.inr (Option.some.inj hk).symm)))
          rw [← hu] at h1
          refine ⟨ua, uc, w6, h1, x5.cell c2, hu ▸ x7.cell c2, hu ▸ k1, hr.row.cell (i := 2) (v := .map (some m)) rfl, Lib.hid ⟨rfl, ?_, ?_, ?_⟩⟩
          · have hz7 := HZ2.out.chg (Chg.of_ext (Ext.trans X4.out x7) (fun _ => False)) (fun _ _ h => h)
            exact hz7.chg (S := fun b => b = m) ((Chg.refl _ _).grown k3 (fun k hk => .inl (Option.some.inj hk).symm)) (fun b hb e => h7.fuse hz7 m (.inr (.inl rfl)) (by rw [hb, e]))
          · rw [HFS.out.1] at hr
            refine hr.simAt (fun b hb => ?_) HS.out.2.1 HS.out.2.2 hg.size
            rcases hb with rfl | rfl | ⟨e, he, hb⟩
            · exact .inl (HS.out.1 _ (.inl rfl))
            · exact .inl (HS.out.1 _ (.inr (.inl rfl)))
            · rcases mem_put.1 he with rfl | ⟨he, -⟩
              · rcases hb with rfl | hb
                · refine .inr ⟨?_, ?_⟩
                  · show w.heap.size ≤ w5.heap.size; have := h3.size; omega
                  · show w5.heap.size < w6.heap.size; rw [k4, hs6]; omega
                · have l1 := h2.block _ hb
                  have l2 := h2.lt hb
                  exact .inr ⟨by omega, by rw [k4, hs6]; omega⟩
              · exact .inl (HS.out.1 _ (.inr (.inr ⟨e, he, hb⟩)))
          · exact hg.mono fun b _ hb => by
              rcases hb with rfl | hb | rfl
              · exact .inl (HS.out.1 _ (.inl rfl))
              · exact .inr hb
              · exact .inl (HS.out.1 _ (.inr (.inl rfl)))
      have CLH := Lib.hid CL
      clear CL
      go_wp2_with fail
      have x0 : Ext w4 w4.drew := Ext.of_drawn _ 1
      have c2d : (fun w' : World => w'.cell? ⟨s, 2, none⟩ = some (.map (some m))) w4.drew := c2
      go_region_held3 (fun w' : World => w'.cell? ⟨s, 2, none⟩ = some (.map (some m))) (assumption) (first | (go_at_call 85; refine (CLH.out _ x0).mono ?_; rintro e w5 ⟨ua, uc, w6, rfl, k1, k2, k3, k4, hfin⟩))
      clear k1 k2 k3 k4 c2 c2d qn
      go_wp2_with fail
      go_ret
      rw [HW.out]
      exact hfin.out
end Go.Proofs.YthkbbcdnmdjhdaaGreat
/-! XDkH: Sync, Read, Rename, Delete. -/
namespace Go.Proofs.YthkbbcdnmdjhdaaGreat
open Go.RowKit Dk Go.WideShapes Go.ChangeMaps Go.MapKept
set_option maxRecDepth 100000
set_option maxHeartbeats 4000000
attribute [local go_sem] min_int2 max_int2 bstr_toList

namespace Dk
theorem put_same {α : Type} {l : L α} (hu : Up l) {p : Path} {x : α} (h : get p l = some x) : put p x l = l :=
  get_ext (put_up hu) hu fun q => by
    rw [get_put hu]
    by_cases e : p = q
    · rw [if_pos e, ← e, h]
    · rw [if_neg e]
def syncs (z : Option FS) (d : DS) (p : Path) : Nat × Option FS × DS :=
  if opens z d p [] = 0 then (0, (begins z d [p]).2.1, { (begins z d [p]).2.2 with fs := put p ⟨match get p d.fs with | some f => f.b | none => [], true⟩ d.fs }) else (opens z d p [], (begins z d [p]).2)
/-- What is read. -/
def readb (z : Option FS) (d : DS) (p : Path) : List UInt8 := if opens z d p [] = 0 then (match get p d.fs with | some f => f.b | none => []) else []
def renames (z : Option FS) (d : DS) (p q : Path) : Nat × Option FS × DS :=
  if opens z d p [q] = 0 then (if p = q then (0, (begins z d [p, q]).2) else (0, (begins z d [p, q]).2.1, { (begins z d [p, q]).2.2 with fs := del p (match get p d.fs with | some f => put q f d.fs | none => d.fs) })) else (opens z d p [q], (begins z d [p, q]).2)
def deletes (z : Option FS) (d : DS) (p : Path) : Nat × Option FS × DS :=
  if opens z d p [] = 0 then (0, (begins z d [p]).2.1, { (begins z d [p]).2.2 with fs := del p d.fs }) else (opens z d p [], (begins z d [p]).2)
/-- Where open has no error the operation was begun, and the file is there. -/
theorem opens_zero {z : Option FS} {d : DS} {p : Path} {more : List Path} (h : opens z d p more = 0) : (begins z d (p :: more)).1 = 0 ∧ ∃ f, get p d.fs = some f := by
  unfold opens at h
  split at h
  · rename_i h0
    refine ⟨h0, ?_⟩
    cases hg : get p d.fs with
    | none => rw [hg] at h; simp at h
    | some f => exact ⟨f, rfl⟩
  · rename_i h0; exact absurd h h0
end Dk

/-- One file's slice and mark written anew. -/
theorem Raw.turn {w w' : World} {s m : Nat} {fp : Option Nat} {es : L Ent} {d : DS} (h : Raw w s fp m es d) {p : Path} {x : Ent} (hx : get p es = some x) {v' : Value} {f' : Fil} (hc : Chg (fun b => b = x.q) w w')
    (hr : Row w' x.q 174 #[v', .bool f'.sure]) (hv : v'.ownBlock = x.v.ownBlock ∨ v'.ownBlock = none) (ho : Own w' 0 5 v' (bvs f'.b)) : Raw w' s fp m (Dk.put p ⟨x.q, v', f'⟩ es) { d with fs := Dk.put p f' d.fs } := by
  have hs := h.sim
  have hxm := get_mem hx
  have hqs : qs (Dk.put p ⟨x.q, v', f'⟩ es) = qs es := by
    show mapv (fun x : Ent => x.q) (Dk.put p ⟨x.q, v', f'⟩ es) = _
    rw [← put_mapv (fun x : Ent => x.q)]
    exact put_same (h.up.mapv _) (by rw [get_mapv, hx]; rfl)
  have ap : ∀ e ∈ es, e.1 ≠ p → EApart x e.2 ∧ EApart e.2 x := fun e he hne => ⟨h.apart (p, x) hxm e he fun e1 => hne e1.symm, h.apart e he (p, x) hxm hne⟩
  have ap' : ∀ e ∈ es, e.1 ≠ p → EApart ⟨x.q, v', f'⟩ e.2 ∧ EApart e.2 ⟨x.q, v', f'⟩ := fun e he hne => by
    obtain ⟨⟨a1, a2⟩, b1, b2⟩ := ap e he hne
    refine ⟨⟨a1, ?_⟩, b1, ?_⟩
    · show v'.ownBlock = none ∨ v'.ownBlock ≠ e.2.v.ownBlock
      rcases hv with hv | hv
      · rw [hv]; exact a2
      · exact .inl hv
    · show e.2.v.ownBlock = none ∨ e.2.v.ownBlock ≠ v'.ownBlock
      rcases hv with hv | hv
      · rw [hv]; exact b2
      · cases hb : e.2.v.ownBlock with
        | none => exact .inl rfl
        | some k => right; rw [hv]; simp
  refine ⟨h.row.chg hc (fun e => (hs.2 _ hxm).1 e.symm), by rw [hqs]; exact h.map.chg hc (fun e => h.map.ne (h.file _ hxm).1 e.symm), put_up h.up, fun e he => ?_, fun e he e' he' hne => ?_, ?_, h.nb, h.nm⟩
  · rcases mem_put.1 he with rfl | ⟨he, hne⟩
    · exact ⟨hr, ho⟩
    · exact (h.file e he).chg hc (ap e he hne).2.1 (fun b hb e1 => (h.file e he).2.ne (h.file _ hxm).1 (fun x => ty_file_byte x.symm) (by rw [hb, e1]))
  · rcases mem_put.1 he with rfl | ⟨he, hn⟩ <;> rcases mem_put.1 he' with rfl | ⟨he', hn'⟩
    · exact absurd rfl hne
    · exact (ap' e' he' hn').1
    · exact (ap' e he hn).2
    · exact h.apart e he e' he' hne
  · show Dk.put p f' d.fs = _
    rw [h.fs]
    exact put_mapv (fun x : Ent => x.f) p ⟨x.q, v', f'⟩ es
/-- The files come under other paths, or go. -/
theorem Raw.remap {w w' : World} {s m : Nat} {fp : Option Nat} {es es' : L Ent} {d : DS} (h : Raw w s fp m es d) (hc : Chg (fun b => b = m) w w') (hm : FMap w' m (qs es')) (hu : Up es') (hsub : ∀ e ∈ es', ∃ e0 ∈ es, e0.2 = e.2)
    (hap : ∀ e ∈ es', ∀ e' ∈ es', e.1 ≠ e'.1 → EApart e.2 e'.2) : Raw w' s fp m es' { d with fs := fils es' } :=
  ⟨h.row.chg hc h.sim.1, hm, hu, fun e he => by
    obtain ⟨e0, h0, e1⟩ := hsub e he
    have hf := h.file e0 h0
    rw [e1] at hf
    exact hf.chg hc (fun x => h.map.ne hf.1 x) (fun b hb x => h.map.own hf.2 (by rw [hb, x])), hap, rfl, h.nb, h.nm⟩
theorem Foot.sub {s m : Nat} {es es' : L Ent} (hsub : ∀ e ∈ es', ∃ e0 ∈ es, e0.2.q = e.2.q ∧ (e.2.v.ownBlock = e0.2.v.ownBlock ∨ e.2.v.ownBlock = none)) {b : Nat} (h : Foot s m es' b) : Foot s m es b := by
  rcases h with h | h | ⟨e, he, h⟩
  · exact .inl h
  · exact .inr (.inl h)
  · obtain ⟨e0, h0, e1, e2⟩ := hsub e he
    refine .inr (.inr ⟨e0, h0, ?_⟩)
    rcases h with h | h
    · exact .inl (by rw [h, e1])
    · rcases e2 with e2 | e2
      · exact .inr (by rw [← e2, h])
      · rw [e2] at h; cases h
theorem sync_any (s : Nat) (fp : Option Nat) (z : Option FS) (d : DS) (S : Nat → Prop) (p : Path) (w : World) (h : SimAt w s fp d S) (hz : FzAt w fp z) (hzo : zops z < 1099511627776) (hp : p.length ≤ maxLen) :
    Calls Tryz.prog 106 #[.pointer (some ⟨s, 0, none⟩), .string (bstr p)] w (SimOut s fp S w (syncs z d p)) := by
  obtain ⟨m, es, h, hS1, hS2, hS3⟩ := h
  have H := Lib.hid h
  have HZ := Lib.hid hz
  have HS := Lib.hid (And.intro hS1 (And.intro hS2 (show ∀ b, fp = some b → ¬ S b ∧ b < w.heap.size from fun b hb => ⟨hS3 b hb, hz.lt b hb⟩)))
  have HP := Lib.hid hp
  clear h hz hS1 hS2 hS3 hp
  go_enter Tryz.func106, Tryz.ntmps106
  go_wp2_with fail
  refine (open_any s m fp z es d p [] _ _ H.out HZ.out hzo HP.out (by simp) (by simp) (Own.nil _ _ _)).mono ?_; rintro e w2 ⟨rfl, hz2, h2, hg2⟩
  have HZ2 := Lib.hid hz2
  have H2 := Lib.hid h2
  have HG2 := Lib.hid (hg2.mono (T := fun b => S b ∨ fp = some b) fun b _ hb => by
    rcases hb with rfl | hb
    · exact .inl (HS.out.1 _ (.inl rfl))
    · exact .inr hb)
  clear hz2 h2 hg2
  obtain ⟨n, hnn⟩ : ∃ n, opens z d p [] = n := ⟨_, rfl⟩
  rw [hnn]
  by_cases h0 : n = 0
  case neg =>
    have q1 : ((n : Int) == 0) = false := by simp; omega
    have HW : Hid (syncs z d p = (n, (begins z d [p]).2)) := Lib.hid (by unfold syncs; rw [hnn, if_neg h0])
    clear h0 hnn
    go_wp2_with fail
    go_ret
    rw [HW.out]
    exact ⟨rfl, HZ2.out, H2.out.simAt (fun b hb => .inl (HS.out.1 b hb)) HS.out.2.1 HS.out.2.2 HG2.out.size, HG2.out⟩
  subst h0
  have q1 : (((0 : Nat) : Int) == 0) = true := rfl
  obtain ⟨hb0, f, hf⟩ := opens_zero hnn
  obtain ⟨x, hx, hxf⟩ : ∃ x, get p es = some x ∧ x.f = f := by
    rw [H.out.fs, fils_get] at hf
    cases hg : get p es with
    | none => rw [hg] at hf; cases hf
    | some x => rw [hg] at hf; exact ⟨x, rfl, Option.some.inj hf⟩
  have hq : openQ z es d p [] = some x.q := by unfold openQ; rw [hb0, if_pos rfl, hx]; rfl
  rw [hq, show fptr (some x.q) = .pointer (some ⟨x.q, 0, none⟩) from rfl]
  have hfile := H2.out.file _ (get_mem hx)
  have c1 := hfile.1.cell (i := 1) (v := .bool x.f.sure) rfl
  have u1 := hfile.1.unfrozen 1
  have hc : Chg (fun b => b = x.q) w2 (w2.setCell ⟨x.q, 1, none⟩ (.bool true)) := (Chg.refl (fun b => b = x.q) w2).at x.q 1 (.inl rfl) _
  have hr := hfile.1.set 1 (.bool true)
  have ht := H2.out.turn hx (v' := x.v) (f' := ⟨x.f.b, true⟩) hc (by simpa using hr) (.inl rfl) (hfile.2.chg hc (fun b hb e1 => hfile.2.ne hfile.1 (fun x => ty_file_byte x.symm) (by rw [hb, e1])))
  have HW : Hid (syncs z d p = (0, (begins z d [p]).2.1, { (begins z d [p]).2.2 with fs := Dk.put p ⟨x.f.b, true⟩ (begins z d [p]).2.2.fs })) := Lib.hid (by unfold syncs; rw [hnn, if_pos rfl, hf, begins_fs, hxf])
  have HN := Lib.hid (And.intro ht (And.intro (HZ2.out.chg hc (fun b hb e1 => H2.out.fuse HZ2.out b (.inr (.inr ⟨_, get_mem hx, .inl e1⟩)) hb)) (And.intro (HG2.out.at x.q 1 (.inl (.inl (HS.out.1 _ (.inr (.inr ⟨_, get_mem hx, .inl rfl⟩))))) (.bool true)) hx)))
  clear hnn hb0 hf hx hxf hq hfile hc hr ht
  go_wp2_with fail
  go_ret
  rw [HW.out]
  refine ⟨rfl, HN.out.2.1, HN.out.1.simAt (fun b hb => .inl (HS.out.1 b (Foot.sub (fun e he => ?_) hb))) HS.out.2.1 HS.out.2.2 HN.out.2.2.1.size, HN.out.2.2.1⟩
  rcases mem_put.1 he with rfl | ⟨he, -⟩
  · exact ⟨_, get_mem HN.out.2.2.2, rfl, .inl rfl⟩
  · exact ⟨e, he, rfl, .inl rfl⟩
def ReadOut (s : Nat) (fp : Option Nat) (z : Option FS) (d : DS) (S : Nat → Prop) (p : Path) (w : World) (e : Ending) (w' : World) : Prop :=
  ∃ u, e = .returned (.tuple #[u, .int .i64 (opens z d p [] : Nat)]) ∧ Own w' w.heap.size 5 u (bvs (readb z d p)) ∧ FzAt w' fp (begins z d [p]).2.1 ∧ SimAt w' s fp (begins z d [p]).2.2 S ∧ Chg (fun b => S b ∨ fp = some b) w w'
theorem read_any (s : Nat) (fp : Option Nat) (z : Option FS) (d : DS) (S : Nat → Prop) (p : Path) (w : World) (h : SimAt w s fp d S) (hz : FzAt w fp z) (hzo : zops z < 1099511627776) (hp : p.length ≤ maxLen) (ht : tot d.fs ≤ 1099511627776) :
    Calls Tryz.prog 105 #[.pointer (some ⟨s, 0, none⟩), .string (bstr p)] w (ReadOut s fp z d S p w) := by
  obtain ⟨m, es, h, hS1, hS2, hS3⟩ := h
  have H := Lib.hid h
  have HZ := Lib.hid hz
  have HS := Lib.hid (And.intro hS1 (And.intro hS2 hS3))
  have HP := Lib.hid hp
  clear h hz hS1 hS2 hS3 hp
  go_enter Tryz.func105, Tryz.ntmps105
  go_wp2_with fail
  refine (open_any s m fp z es d p [] _ _ H.out HZ.out hzo HP.out (by simp) (by simp) (Own.nil _ _ _)).mono ?_; rintro e w2 ⟨rfl, hz2, h2, hg2⟩
  have HG2 := Lib.hid (hg2.mono (T := fun b => S b ∨ fp = some b) fun b _ hb => by
    rcases hb with rfl | hb
    · exact .inl (HS.out.1 _ (.inl rfl))
    · exact .inr hb)
  have HZ2 := Lib.hid hz2
  have H2 := Lib.hid (And.intro h2 (show SimAt w2 s fp (begins z d [p]).2.2 S from ⟨m, es, h2, HS.out.1, fun b hb => Nat.lt_of_lt_of_le (HS.out.2.1 b hb) hg2.size, HS.out.2.2⟩))
  clear hz2 h2 hg2
  obtain ⟨n, hnn⟩ : ∃ n, opens z d p [] = n := ⟨_, rfl⟩
  rw [hnn]
  by_cases h0 : n = 0
  case neg =>
    have q1 : ((n : Int) != 0) = true := by simp; omega
    have HW : Hid (readb z d p = []) := Lib.hid (by unfold readb; rw [hnn, if_neg h0])
    have HB := Lib.hid (show Own w2 w.heap.size 5 (.slice none 0 0) (bvs (readb z d p)) by rw [HW.out]; exact Own.nil _ _ _)
    have HN := Lib.hid hnn
    clear h0 hnn
    go_wp2_with fail
    go_ret2
    exact ⟨_, by rw [HN.out]; rfl, HB.out, HZ2.out, H2.out.2, HG2.out⟩
  subst h0
  have q1 : (((0 : Nat) : Int) != 0) = false := rfl
  obtain ⟨hb0, f, hf⟩ := opens_zero hnn
  obtain ⟨x, hx, hxf⟩ : ∃ x, get p es = some x ∧ x.f = f := by
    rw [H.out.fs, fils_get] at hf
    cases hg : get p es with
    | none => rw [hg] at hf; cases hf
    | some x => rw [hg] at hf; exact ⟨x, rfl, Option.some.inj hf⟩
  have hq : openQ z es d p [] = some x.q := by unfold openQ; rw [hb0, if_pos rfl, hx]; rfl
  rw [hq, show fptr (some x.q) = .pointer (some ⟨x.q, 0, none⟩) from rfl]
  have hfile := H2.out.1.file _ (get_mem hx)
  have c1 := hfile.1.cell (i := 0) (v := x.v) rfl
  obtain ⟨xa, xc, hv⟩ := Own.slice' hfile.2
  rw [bvs_len] at hv
  have hl : x.f.b.length ≤ 140737488351232 := by
    have := tot_mem (l := d.fs) (e := (p, x.f)) (get_mem (by rw [H.out.fs, fils_get, hx]; rfl))
    have h2 : x.f.b.length ≤ tot d.fs := this
    omega
  have HW : Hid (readb z d p = x.f.b) := Lib.hid (by unfold readb; rw [hnn, if_pos rfl, hf, hxf])
  have HC := Lib.hid (And.intro hfile.2.cells hl)
  rw [hv] at c1 HC
  have HN := Lib.hid hnn
  clear hnn hb0 hf hx hxf hq hfile hv hl
  go_wp2_with fail
  refine (bclone_own _ x.f.b HC.out.2 _ HC.out.1).mono ?_; rintro e w3 ⟨u, rfl, hU, x3⟩
  have HU := Lib.hid (show Own w3 w.heap.size 5 u (bvs (readb z d p)) by rw [HW.out]; exact hU.mono HG2.out.size)
  have HZ3 := Lib.hid (HZ2.out.chg (Chg.of_ext x3 (fun _ => False)) (fun _ _ h => h))
  have H3 := Lib.hid (H2.out.2.ext x3)
  have HG3 := Lib.hid (HG2.out.trans (Chg.of_ext x3 _))
  clear hU x3
  go_wp2_with fail
  go_ret2
  exact ⟨_, by rw [HN.out]; rfl, HU.out, HZ3.out, H3.out, HG3.out⟩
theorem delete_any (s : Nat) (fp : Option Nat) (z : Option FS) (d : DS) (S : Nat → Prop) (p : Path) (w : World) (h : SimAt w s fp d S) (hz : FzAt w fp z) (hzo : zops z < 1099511627776) (hp : p.length ≤ maxLen) :
    Calls Tryz.prog 108 #[.pointer (some ⟨s, 0, none⟩), .string (bstr p)] w (SimOut s fp S w (deletes z d p)) := by
  obtain ⟨m, es, h, hS1, hS2, hS3⟩ := h
  have H := Lib.hid h
  have HZ := Lib.hid hz
  have HS := Lib.hid (And.intro hS1 (And.intro hS2 (show ∀ b, fp = some b → ¬ S b ∧ b < w.heap.size from fun b hb => ⟨hS3 b hb, hz.lt b hb⟩)))
  have HP := Lib.hid hp
  clear h hz hS1 hS2 hS3 hp
  go_enter Tryz.func108, Tryz.ntmps108
  go_wp2_with fail
  refine (open_any s m fp z es d p [] _ _ H.out HZ.out hzo HP.out (by simp) (by simp) (Own.nil _ _ _)).mono ?_; rintro e w2 ⟨rfl, hz2, h2, hg2⟩
  have HZ2 := Lib.hid hz2
  have H2 := Lib.hid h2
  have HG2 := Lib.hid (hg2.mono (T := fun b => S b ∨ fp = some b) fun b _ hb => by
    rcases hb with rfl | hb
    · exact .inl (HS.out.1 _ (.inl rfl))
    · exact .inr hb)
  clear hz2 h2 hg2
  obtain ⟨n, hnn⟩ : ∃ n, opens z d p [] = n := ⟨_, rfl⟩
  rw [hnn]
  by_cases h0 : n = 0
  case neg =>
    have q1 : ((n : Int) == 0) = false := by simp; omega
    have HW : Hid (deletes z d p = (n, (begins z d [p]).2)) := Lib.hid (by unfold deletes; rw [hnn, if_neg h0])
    clear h0 hnn
    go_wp2_with fail
    go_ret
    rw [HW.out]
    exact ⟨rfl, HZ2.out, H2.out.simAt (fun b hb => .inl (HS.out.1 b hb)) HS.out.2.1 HS.out.2.2 HG2.out.size, HG2.out⟩
  subst h0
  have q1 : (((0 : Nat) : Int) == 0) = true := rfl
  have c2 := H2.out.row.cell (i := 2) (v := .map (some m)) rfl
  obtain ⟨w3, hrun, hm3, hg3, -⟩ := H2.out.map.del p HP.out 0
  have hc : Chg (fun b => b = m) w2 w3 := (Chg.refl _ w2).grown hg3 (fun k hk => .inl (Option.some.inj hk).symm)
  have hr := H2.out.remap (es' := Dk.del p es) hc (by
    have : qs (Dk.del p es) = Dk.del p (qs es) := (del_mapv _ p es).symm
    rw [this]; exact hm3) (del_up H2.out.up p) (fun e he => ⟨e, (mem_del.1 he).1, rfl⟩) (fun e he e' he' hne => H2.out.apart e (mem_del.1 he).1 e' (mem_del.1 he').1 hne)
  have HW : Hid (deletes z d p = (0, (begins z d [p]).2.1, { (begins z d [p]).2.2 with fs := fils (Dk.del p es) })) := Lib.hid (by
    unfold deletes; rw [hnn, if_pos rfl, H.out.fs]
    show (_, _, DS.mk _ _ _ (Dk.del p (mapv _ es))) = _
    rw [del_mapv]; rfl)
  have HN := Lib.hid (And.intro hr (And.intro (HZ2.out.chg hc (fun b hb e1 => H2.out.fuse HZ2.out b (.inr (.inl e1)) hb)) (HG2.out.trans (hc.mono (T := fun b => S b ∨ fp = some b) fun b _ hb => .inl (by rw [hb]; exact HS.out.1 _ (.inr (.inl rfl)))))))
  clear hnn hm3 hg3 hc hr
  go_wp2_with fail
  go_ret
  rw [HW.out]
  exact ⟨rfl, HN.out.2.1, HN.out.1.simAt (fun b hb => .inl (HS.out.1 b (Foot.sub (fun e he => ⟨e, (mem_del.1 he).1, rfl, .inl rfl⟩) hb))) HS.out.2.1 HS.out.2.2 HN.out.2.2.size, HN.out.2.2⟩
theorem rename_any (s : Nat) (fp : Option Nat) (z : Option FS) (d : DS) (S : Nat → Prop) (p q : Path) (w : World) (h : SimAt w s fp d S) (hz : FzAt w fp z) (hzo : zops z < 1099511627776) (hp : p.length ≤ maxLen) (hq : q.length ≤ maxLen) (hn : d.fs.length ≤ 4096) :
    Calls Tryz.prog 107 #[.pointer (some ⟨s, 0, none⟩), .string (bstr p), .string (bstr q)] w (SimOut s fp S w (renames z d p q)) := by
  obtain ⟨m, es, h, hS1, hS2, hS3⟩ := h
  have H := Lib.hid h
  have HZ := Lib.hid hz
  have HS := Lib.hid (And.intro hS1 (And.intro hS2 (show ∀ b, fp = some b → ¬ S b ∧ b < w.heap.size from fun b hb => ⟨hS3 b hb, hz.lt b hb⟩)))
  have HP := Lib.hid (And.intro hp hq)
  have o1 := Strs.one w q
  have x1 : Ext w (w.alloc (.cells #[.string (bstr q)] 9)) := (Ext.refl w).alloc (Nat.le_refl _) _
  have c1 : Chg (fun _ => False) w (w.alloc (.cells #[.string (bstr q)] 9)) := Chg.of_ext x1 _
  have HA := Lib.hid (And.intro o1 (And.intro (h.chg c1 (fun _ _ h => h)) (And.intro (hz.chg c1 (fun _ _ h => h)) x1)))
  clear h hz hS1 hS2 hS3 hp hq o1 x1 c1
  go_enter Tryz.func107, Tryz.ntmps107
  go_wp2_with fail
  refine (open_any s m fp z es d p [q] _ _ HA.out.2.1 HA.out.2.2.1 hzo HP.out.1 (by simp) (fun r hr => by rw [List.mem_singleton.1 hr]; exact HP.out.2) HA.out.1).mono ?_; rintro e w2 ⟨rfl, hz2, h2, hg2⟩
  have HZ2 := Lib.hid hz2
  have H2 := Lib.hid h2
  have HG2 := Lib.hid ((Chg.after HA.out.2.2.2 hg2).mono (T := fun b => S b ∨ fp = some b) fun b _ hb => by
    rcases hb with rfl | hb
    · exact .inl (HS.out.1 _ (.inl rfl))
    · exact .inr hb)
  clear hz2 h2 hg2
  obtain ⟨n, hnn⟩ : ∃ n, opens z d p [q] = n := ⟨_, rfl⟩
  rw [hnn]
  by_cases h0 : n = 0
  case neg =>
    have q1 : ((n : Int) != 0) = true := by simp; omega
    have HW : Hid (renames z d p q = (n, (begins z d [p, q]).2)) := Lib.hid (by unfold renames; rw [hnn, if_neg h0])
    clear h0 hnn
    go_wp2_with fail
    go_ret
    rw [HW.out]
    exact ⟨rfl, HZ2.out, H2.out.simAt (fun b hb => .inl (HS.out.1 b hb)) HS.out.2.1 HS.out.2.2 HG2.out.size, HG2.out⟩
  subst h0
  have q1 : (((0 : Nat) : Int) != 0) = false := rfl
  by_cases hpq : p = q
  · have HW : Hid (renames z d p q = (0, (begins z d [p, q]).2)) := Lib.hid (by unfold renames; rw [hnn, if_pos rfl, if_pos hpq])
    have q2 : (p == q) = true := by simpa using hpq
    clear hnn hpq
    go_wp2_with fail
    go_ret
    rw [HW.out]
    exact ⟨rfl, HZ2.out, H2.out.simAt (fun b hb => .inl (HS.out.1 b hb)) HS.out.2.1 HS.out.2.2 HG2.out.size, HG2.out⟩
  have q2 : (p == q) = false := by simpa using hpq
  obtain ⟨hb0, f, hf⟩ := opens_zero hnn
  obtain ⟨x, hx, hxf⟩ : ∃ x, get p es = some x ∧ x.f = f := by
    rw [H.out.fs, fils_get] at hf
    cases hg : get p es with
    | none => rw [hg] at hf; cases hf
    | some x => rw [hg] at hf; exact ⟨x, rfl, Option.some.inj hf⟩
  have hoq : openQ z es d p [q] = some x.q := by unfold openQ; rw [hb0, if_pos rfl, hx]; rfl
  rw [hoq, show fptr (some x.q) = .pointer (some ⟨x.q, 0, none⟩) from rfl]
  have c2 := H2.out.row.cell (i := 2) (v := .map (some m)) rfl
  have hel : (qs es).length ≤ 4096 := by rw [show (qs es).length = es.length from mapv_length _ _]; rw [H.out.fs, show (fils es).length = es.length from mapv_length _ _] at hn; exact hn
  obtain ⟨w3, hrun3, hm3, hg3, -⟩ := H2.out.map.put q HP.out.2 x.q (by omega)
  obtain ⟨w4, hrun4, hm4, hg4, -⟩ := hm3.del p HP.out.1 0
  have hc3 : Chg (fun b => b = m) w2 w3 := (Chg.refl _ w2).grown hg3 (fun k hk => .inl (Option.some.inj hk).symm)
  have hc : Chg (fun b => b = m) w2 w4 := hc3.grown hg4 (fun k hk => .inl (Option.some.inj hk).symm)
  have c3 := hc3.cell c2 H2.out.sim.1
  have hxm := get_mem hx
  have key : ∀ e ∈ Dk.del p (Dk.put q x es), (e = (q, x)) ∨ (e ∈ es ∧ e.1 ≠ p) := fun e he => by
    obtain ⟨he, hne⟩ := mem_del.1 he
    rcases mem_put.1 he with h | ⟨h, -⟩
    · exact .inl h
    · exact .inr ⟨h, hne⟩
  have hsub : ∀ e ∈ Dk.del p (Dk.put q x es), ∃ e0 ∈ es, e0.2 = e.2 := fun e he => by
    rcases key e he with rfl | ⟨h, -⟩
    · exact ⟨_, hxm, rfl⟩
    · exact ⟨e, h, rfl⟩
  have hr := H2.out.remap (es' := Dk.del p (Dk.put q x es)) hc (by
    have e1 : qs (Dk.put q x es) = Dk.put q x.q (qs es) := (put_mapv (fun x : Ent => x.q) q x es).symm
    have e2 : qs (Dk.del p (Dk.put q x es)) = Dk.del p (qs (Dk.put q x es)) := (del_mapv _ p _).symm
    rw [e2, e1]; exact hm4) (del_up (put_up H2.out.up) p) hsub (fun e he e' he' hne => by
    rcases key e he with rfl | ⟨h, h1⟩ <;> rcases key e' he' with rfl | ⟨h', h1'⟩
    · exact absurd rfl hne
    · exact H2.out.apart (p, x) hxm e' h' (fun e1 => h1' e1.symm)
    · exact H2.out.apart e h (p, x) hxm h1
    · exact H2.out.apart e h e' h' hne)
  have HW : Hid (renames z d p q = (0, (begins z d [p, q]).2.1, { (begins z d [p, q]).2.2 with fs := fils (Dk.del p (Dk.put q x es)) })) := Lib.hid (by
    unfold renames; rw [hnn, if_pos rfl, if_neg hpq, hf, H.out.fs]
    show (_, _, DS.mk _ _ _ (Dk.del p (Dk.put q f (mapv (fun x : Ent => x.f) es)))) = _
    rw [← hxf, put_mapv (fun x : Ent => x.f) q x es, del_mapv]; rfl)
  have HN := Lib.hid (And.intro hr (And.intro (HZ2.out.chg hc (fun b hb e1 => H2.out.fuse HZ2.out b (.inr (.inl e1)) hb)) (And.intro (HG2.out.trans (hc.mono (T := fun b => S b ∨ fp = some b) fun b _ hb => .inl (by rw [hb]; exact HS.out.1 _ (.inr (.inl rfl))))) hsub)))
  clear hnn hm3 hg3 hm4 hg4 hc hc3 hr hpq hb0 hf hx hxf hoq hel hxm key hsub
  go_wp2_with fail
  go_ret
  rw [HW.out]
  exact ⟨rfl, HN.out.2.1, HN.out.1.simAt (fun b hb => .inl (HS.out.1 b (Foot.sub (fun e he => by
    obtain ⟨e0, h0, e1⟩ := HN.out.2.2.2 e he
    exact ⟨e0, h0, by rw [e1], by rw [e1]; exact .inl rfl⟩) hb))) HS.out.2.1 HS.out.2.2 HN.out.2.2.1.size, HN.out.2.2.1⟩
end Go.Proofs.YthkbbcdnmdjhdaaGreat
/-! XDkI: New; Crash. -/
namespace Go.Proofs.YthkbbcdnmdjhdaaGreat
open Go.RowKit Dk Go.WideShapes Go.ChangeMaps Go.MapKept
set_option maxRecDepth 100000
set_option maxHeartbeats 4000000
attribute [local go_sem] min_int2 max_int2 bstr_toList

def mostOf (n : Int) : Nat := if n < 0 ∨ 4194304 < n then 0 else n.toNat
theorem dnew_any (n : Int) (fp : Option Nat) (w : World) (hf : ∀ b, fp = some b → b < w.heap.size) :
    Calls Tryz.prog 67 #[.int .i64 n, fptr fp] w fun e w' => e = .returned (.pointer (some ⟨w.heap.size + 1, 0, none⟩)) ∧ SimAt w' (w.heap.size + 1) fp ⟨mostOf n, false, 0, []⟩ (Grow (fun _ => False) w w') ∧ Ext w w' := by
  have hmm := @run_makeMap Tryz.prog
  have key : ∀ M : Nat, M ≤ 4194304 → SimAt ((w.alloc (.map #[] 0)).alloc (.cells #[.int .i64 M, fptr fp, .map (some w.heap.size), .bool false, .int .i64 0] 114)) (w.heap.size + 1) fp ⟨M, false, 0, []⟩ (Grow (fun _ => False) w ((w.alloc (.map #[] 0)).alloc (.cells #[.int .i64 M, fptr fp, .map (some w.heap.size), .bool false, .int .i64 0] 114))) := fun M hM => by
    have hs : (w.alloc (.map #[] 0)).heap.size = w.heap.size + 1 := by simp
    have hr := Row.new (w.alloc (.map #[] 0)) 114 #[.int .i64 M, fptr fp, .map (some w.heap.size), .bool false, .int .i64 0]
    rw [hs] at hr
    have hm : FMap ((w.alloc (.map #[] 0)).alloc (.cells #[.int .i64 M, fptr fp, .map (some w.heap.size), .bool false, .int .i64 0] 114)) w.heap.size [] := (FMap.made w).chg (Chg.of_ext ((Ext.refl _).alloc (Nat.le_refl _) _) (fun _ => False)) (fun h => h)
    refine ⟨w.heap.size, [], ⟨hr, hm, Up.nil, by simp, by simp, rfl, by simp, hM⟩, fun b hb => ?_, fun b hb => ?_, fun b hb hg => ?_⟩
    · rcases hb with rfl | rfl | ⟨e, he, -⟩
      · exact .inr ⟨by omega, by simp⟩
      · exact .inr ⟨Nat.le_refl _, by simp; omega⟩
      · cases he
    · rcases hb with hb | hb
      · exact hb.elim
      · exact hb.2
    · have := hf b hb
      rcases hg with hg | hg
      · exact hg
      · omega
  have HK := Lib.hid key
  have hx : ∀ o o' : Obj, Ext w ((w.alloc o).alloc o') := fun o o' => ((Ext.refl w).alloc (Nat.le_refl _) o).alloc (by simp) o'
  have HX := Lib.hid hx
  clear key hx
  obtain ⟨ad, hfp⟩ : ∃ ad, fptr fp = .pointer ad := ⟨_, rfl⟩
  rw [hfp] at HK ⊢
  have HF := Lib.hid hfp
  clear hfp hf
  by_cases h0 : n < 0
  · have HM : Hid (mostOf n = 0) := Lib.hid (by unfold mostOf; rw [if_pos (.inl h0)])
    go_enter Tryz.func67, Tryz.ntmps67
    go_wp2_with fail
    go_ret
    rw [HM.out]
    exact ⟨rfl, HK.out 0 (by omega), HX.out _ _⟩
  · have h0' : 0 ≤ n := by omega
    by_cases h1 : 4194304 < n
    · have HM : Hid (mostOf n = 0) := Lib.hid (by unfold mostOf; rw [if_pos (.inr h1)])
      clear h0
      go_enter Tryz.func67, Tryz.ntmps67
      go_wp2_with fail
      go_ret
      rw [HM.out]
      exact ⟨rfl, HK.out 0 (by omega), HX.out _ _⟩
    · have h1' : n ≤ 4194304 := by omega
      obtain ⟨M, rfl⟩ := Int.eq_ofNat_of_zero_le h0'
      have HM : Hid (mostOf (M : Int) = M) := Lib.hid (by unfold mostOf; rw [if_neg (by omega)]; simp)
      clear h0 h1
      go_enter Tryz.func67, Tryz.ntmps67
      go_wp2_with fail
      go_ret
      rw [HM.out]
      exact ⟨rfl, HK.out M (by omega), HX.out _ _⟩
namespace Dk
def cutf (k : Nat) (f : Fil) : Fil := if f.sure then f else ⟨f.b.take (k % (f.b.length + 1)), true⟩
def DS.crash (k : Int) (d : DS) : DS := { d with fs := mapv (cutf k.toNat) d.fs }
end Dk
def cutv (v : Value) (n : Nat) : Value := match v with
  | .slice a _ c => .slice a n c
  | v => v
def cute (k : Nat) (e : Ent) : Ent := if e.f.sure then e else ⟨e.q, cutv e.v (k % (e.f.b.length + 1)), cutf k e.f⟩
/-- Those that have come are cut. -/
def mixe (k : Nat) (left : Lit → Bool) (es : L Ent) : L Ent := es.map fun e => (e.1, if left (.string e.1) then e.2 else cute k e.2)
theorem cute_q (k : Nat) (e : Ent) : (cute k e).q = e.q := by unfold cute; split <;> rfl
theorem cute_f (k : Nat) (e : Ent) : (cute k e).f = cutf k e.f := by
  unfold cute
  split
  · rename_i h; unfold cutf; rw [if_pos h]
  · rfl
theorem mixe_get (k : Nat) (left : Lit → Bool) (es : L Ent) (p : Path) : get p (mixe k left es) = (get p es).map fun e => if left (.string p) then e else cute k e := by
  induction es with
  | nil => rfl
  | cons e es ih =>
    show get p ((e.1, _) :: mixe k left es) = _
    rw [get_cons, get_cons, ih]
    by_cases h : e.1 = p
    · rw [if_pos h, if_pos h, ← h]; rfl
    · rw [if_neg h, if_neg h]
theorem mixe_up {k : Nat} {left : Lit → Bool} {es : L Ent} (h : Up es) : Up (mixe k left es) := by
  unfold mixe
  exact List.pairwise_map.2 h
theorem mixe_qs (k : Nat) (left : Lit → Bool) (es : L Ent) : qs (mixe k left es) = qs es := by
  show List.map _ (List.map _ _) = List.map _ _
  rw [List.map_map]
  apply List.map_congr_left
  intro e _
  show (e.1, _) = (e.1, _)
  congr 1
  show (if left (.string e.1) then e.2 else cute k e.2).q = e.2.q
  split
  · rfl
  · exact cute_q _ _
theorem mixe_step {k : Nat} {left : Lit → Bool} {es : L Ent} {p : Path} {x : Ent} (hu : Up es) (hx : get p es = some x) : put p (cute k x) (mixe k left es) = mixe k (strike left p) es := by
  refine get_ext (put_up (mixe_up hu)) (mixe_up hu) fun q => ?_
  rw [get_put (mixe_up hu), mixe_get, mixe_get]
  by_cases e : p = q
  · subst e
    rw [if_pos rfl, hx]
    have : strike left p (.string p) = false := by unfold strike; rw [same_str]; simp
    rw [this]; rfl
  · rw [if_neg e]
    have : strike left p (.string q) = left (.string q) := by
      unfold strike
      have h2 : ((Lit.string q).sameKey (.string p)) = false := by rw [same_str]; simpa using fun h => e h.symm
      rw [h2]; simp
    rw [this]
theorem mixe_start {k : Nat} {es : L Ent} (hu : Up es) : mixe k (allLeft (qs es)) es = es := by
  refine get_ext (mixe_up hu) hu fun q => ?_
  rw [mixe_get]
  cases h : get q es with
  | none => rfl
  | some x =>
    have : allLeft (qs es) (.string q) = true := by rw [allLeft_iff, qs_get, h]; rfl
    rw [this]; rfl
theorem mixe_end {k : Nat} {left : Lit → Bool} {es : L Ent} (h : ∀ p, left (.string p) = false) : fils (mixe k left es) = mapv (cutf k) (fils es) := by
  show List.map _ (List.map _ _) = List.map _ (List.map _ _)
  rw [List.map_map, List.map_map]
  apply List.map_congr_left
  intro e _
  show (e.1, _) = (e.1, _)
  congr 1
  show (if left (.string e.1) then e.2 else cute k e.2).f = cutf k e.2.f
  rw [h, if_neg (by simp), cute_f]
theorem mixe_foot {k : Nat} {left : Lit → Bool} {es : L Ent} {s m b : Nat} (h : Foot s m (mixe k left es) b) : Foot s m es b := by
  refine Foot.sub (fun e he => ?_) h
  obtain ⟨x, hx, rfl⟩ := List.mem_map.1 he
  refine ⟨x, hx, ?_, ?_⟩
  · show x.2.q = (if left (.string x.1) then x.2 else cute k x.2).q
    split
    · rfl
    · exact (cute_q _ _).symm
  · show (if left (.string x.1) then x.2 else cute k x.2).v.ownBlock = x.2.v.ownBlock ∨ _
    split
    · exact .inl rfl
    · left
      unfold cute
      split
      · rfl
      · show (cutv x.2.v _).ownBlock = x.2.v.ownBlock
        unfold cutv
        split
        · rename_i a n c hv
          rw [hv]; cases a <;> rfl
        · rfl
/-- A beginning of what is owned is owned. -/
theorem Own.cut {w : World} {B : Nat} {e : TypeId} {a : Option Addr} {n c n' : Nat} {l : List UInt8} {k : Nat} (h : Own w B e (.slice a n c) (bvs l)) (hn : n' = (bvs (l.take k)).length) : Own w B e (.slice a n' c) (bvs (l.take k)) := by
  subst hn
  have hle : (bvs (l.take k)).length ≤ (bvs l).length := by rw [bvs_len, bvs_len, List.length_take]; omega
  rcases h.forms with ⟨h1, h2⟩ | ⟨g, cap, cur, h1, h2, hr, hl, hs, ht, h5⟩
  · simp only [Value.slice.injEq] at h1
    obtain ⟨rfl, rfl, rfl⟩ := h1
    have hl0 : l = [] := List.map_eq_nil_iff.1 h2
    subst hl0
    simpa using Own.nil w B e
  · simp only [Value.slice.injEq] at h1
    obtain ⟨rfl, -, rfl⟩ := h1
    refine Own.mk h2 hr (by omega) hs ?_ h5
    have e1 : bvs (l.take k) = (bvs l).take k := List.map_take
    have e2 : (bvs (l.take k)).length = min k (bvs l).length := by rw [e1, List.length_take]
    rw [e2, e1, ← List.take_take, ht]
theorem crash_any (s : Nat) (fp : Option Nat) (d : DS) (S : Nat → Prop) (keep : Int) (hk : -9223372036854775808 ≤ keep ∧ keep ≤ 9223372036854775807) (w : World) (h : SimAt w s fp d S) (ht : tot d.fs ≤ 1099511627776) :
    Calls Tryz.prog 64 #[.pointer (some ⟨s, 0, none⟩), .int .i64 keep] w fun e w' => e = .returned (.tuple #[]) ∧ SimAt w' s fp (d.crash keep) S ∧ Chg S w w' := by
  obtain ⟨m, es, h, hS1, hS2, hS3⟩ := h
  have H := Lib.hid h
  have HS := Lib.hid (And.intro hS1 (And.intro hS2 hS3))
  obtain ⟨k, hkk⟩ : ∃ k : Nat, keep.toNat = k := ⟨_, rfl⟩
  have hmx : max keep 0 = (k : Int) := by omega
  have hkb : k ≤ 9223372036854775807 := by omega
  have HD : Hid (d.crash keep = { d with fs := mapv (cutf k) d.fs }) := Lib.hid (by unfold DS.crash; rw [hkk])
  have HMX := Lib.hid hmx
  have c2 := h.row.cell (i := 2) (v := .map (some m)) rfl
  obtain ⟨w1, hrun, hR, hX, -⟩ := FRange.start h.map
  obtain ⟨r, hr⟩ : ∃ r, w.heap.size = r := ⟨_, rfl⟩
  rw [hr] at hrun hR
  have h1 := h.chg (Chg.of_ext hX (fun _ => False)) (fun _ _ h => h)
  have HR := Lib.hid (And.intro hR (And.intro (show Raw w1 s fp m (mixe k (allLeft (qs es)) es) { d with fs := fils (mixe k (allLeft (qs es)) es) } by rw [mixe_start h.up, ← h.fs]; exact h1) (Chg.of_ext hX S)))
  have HRR := Lib.hid hr
  clear h hR hX hr h1 hS1 hS2 hS3 hkk hmx hk
  go_enter Tryz.func64, Tryz.ntmps64
  go_wp2_with fail
  clear hrun c2
  go_loopw [] (fun wr => ∃ (left : Lit → Bool) (cnt : Nat), Hid (FRange wr m r (qs es) left cnt) ∧ Hid (Raw wr s fp m (mixe k left es) { d with fs := fils (mixe k left es) } ∧ Chg S w wr)) (fun wr => wr.rangeLeft m r)
  case atStart => exact ⟨_, _, Lib.hid HR.out.1, Lib.hid HR.out.2⟩
  case round =>
    obtain ⟨left, cnt, hF, hE⟩ := hrel
    have hml : wr.rangeLeft m r = cnt := World.ranges.left_eq hF.out
    rcases hF.out.next 0 with ⟨hl, hrun⟩ | ⟨p, q, w2, cnt', hg, hl, hpl, hrun, hF2, hlt, hg2, hsz, hen⟩
    · have HN : Hid (SimAt wr s fp (d.crash keep) S) := Lib.hid (by
        rw [HD.out, H.out.fs, ← mixe_end hl]
        exact ⟨m, _, hE.out.1, fun b hb => HS.out.1 b (mixe_foot hb), fun b hb => Nat.lt_of_lt_of_le (HS.out.2.1 b hb) hE.out.2.size, HS.out.2.2⟩)
      clear hl hml
      go_wp2_with fail
      go_end0
      exact ⟨rfl, HN.out, hE.out.2⟩
    · rw [qs_get] at hg
      cases hx : get p es with
      | none => rw [hx] at hg; cases hg
      | some x =>
        rw [hx] at hg
        simp only [Option.map_some, Option.some.injEq] at hg
        subst hg
        have hxm : get p (mixe k left es) = some x := by rw [mixe_get, hx, hl]; rfl
        have hrS : ¬ S r := fun hs => by have := HS.out.2.1 r hs; have := HRR.out; omega
        have hR2 := hE.out.1.chg hg2 (fun b hb e => hrS (by rw [← e]; exact HS.out.1 b (mixe_foot hb)))
        have hG2 : Chg S w w2 := hE.out.2.then (hg2.mono fun b _ hb => .inr (by rw [hb]; exact ⟨by rw [HRR.out]; exact Nat.le_refl _, hF.out.lt⟩))
        have hfile := hR2.file _ (get_mem hxm)
        have c0 := hfile.1.cell (i := 0) (v := x.v) rfl
        have c1 := hfile.1.cell (i := 1) (v := .bool x.f.sure) rfl
        have u0 := hfile.1.unfrozen 0
        have u1 := hfile.1.unfrozen 1
        obtain ⟨xa, xc, hv⟩ := Own.slice' hfile.2
        rw [bvs_len] at hv
        obtain ⟨L, hL⟩ : ∃ L, x.f.b.length = L := ⟨_, rfl⟩
        rw [hL] at hv
        rw [hv] at c0
        cases hsu : x.f.sure with
        | true =>
          rw [hsu] at c1
          have e1 : cute k x = x := by unfold cute; rw [if_pos hsu]
          have e2 : mixe k (strike left p) es = mixe k left es := by rw [← mixe_step H.out.up hx, e1, put_same (mixe_up H.out.up) hxm]
          have HN := Lib.hid (And.intro hF2 (And.intro (And.intro (show Raw w2 s fp m (mixe k (strike left p) es) { d with fs := fils (mixe k (strike left p) es) } by rw [e2]; exact hR2) hG2) (And.intro hlt hml)))
          clear hxm hrS hR2 hG2 hfile hv hsu e1 e2 hF2 hlt hg2 hsz hl hpl hx c0 hL hml
          go_wp2_with fail
          exact ⟨⟨_, _, Lib.hid HN.out.1, Lib.hid HN.out.2.1⟩, by rw [World.ranges.left_eq HN.out.1, HN.out.2.2.2]; exact HN.out.2.2.1⟩
        | false =>
          rw [hsu] at c1
          obtain ⟨n1, hn1⟩ : ∃ n1, k % (L + 1) = n1 := ⟨_, rfl⟩
          have hn1L : n1 ≤ L := by have := Nat.mod_lt k (show 0 < L + 1 by omega); omega
          have hLb : L ≤ 1099511627776 := by
            have h1 := tot_mem (l := d.fs) (e := (p, x.f)) (get_mem (by rw [H.out.fs, fils_get, hx]; rfl))
            have h2 : x.f.b.length ≤ tot d.fs := h1
            omega
          have hLc : L ≤ xc := by
            obtain ⟨a', c', e, hc', -⟩ := hfile.2.cells
            rw [hv] at e
            simp only [Value.slice.injEq] at e
            obtain ⟨-, h5, h6⟩ := e
            rw [h6, h5]; exact hc'
          have em1 : ((k : Int)).tmod ((L : Int) + 1) = (n1 : Int) := by rw [← hn1]; exact (Int.ofNat_tmod k (L + 1)).symm
          have em2 : (k : Int) % ((L : Int) + 1) = (n1 : Int) := by rw [← hn1]; norm_cast
          have ew : IntKind.i64.wrap ((L : Int) + 1) = (L : Int) + 1 := by rw [IntKind.wrap_i64]; omega
          have hce : cute k x = ⟨x.q, .slice xa n1 xc, ⟨x.f.b.take n1, true⟩⟩ := by
            unfold cute cutf
            rw [if_neg (by rw [hsu]; simp), if_neg (by rw [hsu]; simp), hL, hn1, hv]; rfl
          have hcw : Chg (fun b => b = x.q) w2 ((w2.drew.setCell ⟨x.q, 0, none⟩ (.slice xa n1 xc)).setCell ⟨x.q, 1, none⟩ (.bool true)) := ((((Chg.refl (fun b => b = x.q) w2).drew).at x.q 0 (.inl rfl) _).at x.q 1 (.inl rfl) _)
          have hrow : Row ((w2.drew.setCell ⟨x.q, 0, none⟩ (.slice xa n1 xc)).setCell ⟨x.q, 1, none⟩ (.bool true)) x.q 174 #[.slice xa n1 xc, .bool true] := by
            have := (hfile.1.drew.set 0 (.slice xa n1 xc)).set 1 (.bool true)
            simpa using this
          have hown : Own ((w2.drew.setCell ⟨x.q, 0, none⟩ (.slice xa n1 xc)).setCell ⟨x.q, 1, none⟩ (.bool true)) 0 5 (.slice xa n1 xc) (bvs (x.f.b.take n1)) := by
            have ho := hfile.2.chg hcw (fun b hb e1 => hfile.2.ne hfile.1 (fun x => ty_file_byte x.symm) (by rw [hb, e1]))
            rw [hv] at ho
            exact ho.cut (by rw [bvs_len, List.length_take, hL]; omega)
          have hob : (Value.slice xa n1 xc).ownBlock = x.v.ownBlock := by rw [hv]; cases xa <;> rfl
          have hturn := hR2.turn hxm (v' := .slice xa n1 xc) (f' := ⟨x.f.b.take n1, true⟩) hcw hrow (.inl hob) hown
          rw [← hce, mixe_step H.out.up hx] at hturn
          have hfs : Dk.put p ⟨x.f.b.take n1, true⟩ (fils (mixe k left es)) = fils (mixe k (strike left p) es) := by
            rw [← mixe_step (k := k) (left := left) H.out.up hx, hce]
            exact put_mapv (fun x : Ent => x.f) p ⟨x.q, .slice xa n1 xc, ⟨x.f.b.take n1, true⟩⟩ _
          have hturn2 : Raw ((w2.drew.setCell ⟨x.q, 0, none⟩ (.slice xa n1 xc)).setCell ⟨x.q, 1, none⟩ (.bool true)) s fp m (mixe k (strike left p) es) { d with fs := fils (mixe k (strike left p) es) } := by
            rw [← hfs]; exact hturn
          have hqm : ¬ (m = x.q) := fun e => hR2.map.ne hfile.1 e.symm
          have hqr : ¬ (r = x.q) := fun e => hF2.ne hfile.1 e.symm
          have GD : Hid ((fun w8 : World => FRange w8 m r (qs es) (strike left p) cnt' ∧ Raw w8 s fp m (mixe k (strike left p) es) { d with fs := fils (mixe k (strike left p) es) } ∧ Chg S w w8) ((w2.drew.setCell ⟨x.q, 0, none⟩ (.slice xa n1 xc)).setCell ⟨x.q, 1, none⟩ (.bool true))) := Lib.hid ⟨hF2.chg hcw hqm hqr, hturn2, hG2.trans (hcw.mono fun b _ hb => by rw [hb]; exact HS.out.1 _ (mixe_foot (.inr (.inr ⟨_, get_mem hxm, .inl rfl⟩))))⟩
          have hS : (fun w' : World => w'.cell? ⟨x.q, 0, none⟩ = some (.slice xa L xc) ∧ w'.cell? ⟨x.q, 1, none⟩ = some (.bool false)) w2.drew := ⟨c0, c1⟩
          have hlS : ∀ wl : World, (fun w' : World => w'.cell? ⟨x.q, 0, none⟩ = some (.slice xa L xc) ∧ w'.cell? ⟨x.q, 1, none⟩ = some (.bool false)) wl → wl.cell? ⟨x.q, 0, none⟩ = some (.slice xa L xc) ∧ wl.cell? ⟨x.q, 1, none⟩ = some (.bool false) ∧ True ∧ True := fun wl h => ⟨h.1, h.2, trivial, trivial⟩
          have HLT := Lib.hid (And.intro hlt hml)
          have b0 : 0 ≤ (n1 : Int) := by omega
          have b1 : (n1 : Int) ≤ (L : Int) := by omega
          have b2 : (n1 : Int) ≤ (xc : Int) := by omega
          have hmx := HMX.out
          have hnz : ¬ ((L : Int) + 1 = 0) := by omega
          clear hxm hrS hR2 hG2 hfile hv hsu hF2 hlt hg2 hsz hl hpl hx hL hn1 hcw hrow hown hob hturn hfs hturn2 hqm hqr hce hml
          go_wp2_with fail
          refine wp_cut [22, 23, 24, 25, 26, 27, 28, 29, 30, 31, 32, 33, 34, 35, 36, 37, 38, 39, 40, 41] (fun w8 : World => FRange w8 m r (qs es) (strike left p) cnt' ∧ Raw w8 s fp m (mixe k (strike left p) es) { d with fs := fils (mixe k (strike left p) es) } ∧ Chg S w w8) ?_ ?_
          · refine wp_region_U (fun w' : World => w'.cell? ⟨x.q, 0, none⟩ = some (.slice xa L xc) ∧ w'.cell? ⟨x.q, 1, none⟩ = some (.bool false)) 18 (by kernel_rfl) ?_
            refine wpU_pure (i := 0) (v := ?_) rfl (by kernel_rfl) (by kernel_rfl) (by kernel_rfl) (by decide) (fun _ _ _ h => h) (fun _ => hS) (Or.inl ⟨by rfl, fun _ _ => ?_⟩) ?_
            rotate_left
            · go_simp
              try with_reducible rfl
            try simp only [Act.put]
            refine wpU_pure (i := 1) (v := ?_) rfl (by kernel_rfl) (by kernel_rfl) (by kernel_rfl) (by decide) (fun _ _ _ h => h) (fun _ => hS) (Or.inl ⟨by rfl, fun _ _ => ?_⟩) ?_
            rotate_left
            · go_simp
              try with_reducible rfl
            try simp only [Act.put]
            refine wpU_pure (i := 2) (v := ?_) rfl (by kernel_rfl) (by kernel_rfl) (by kernel_rfl) (by decide) (fun _ _ _ h => h) (fun _ => hS) (Or.inl ⟨by rfl, fun _ _ => ?_⟩) ?_
            rotate_left
            · go_simp
              try with_reducible rfl
            try simp only [Act.put]
            refine wpU_pure (i := 3) (v := ?_) rfl (by kernel_rfl) (by kernel_rfl) (by kernel_rfl) (by decide) (fun _ _ _ h => h) (fun _ => hS) (Or.inl ⟨by rfl, fun _ _ => ?_⟩) ?_
            rotate_left
            · go_simp
              try with_reducible rfl
            try simp only [Act.put]
            refine wpU_pure (i := 4) (v := ?_) rfl (by kernel_rfl) (by kernel_rfl) (by kernel_rfl) (by decide) (fun _ _ _ h => h) (fun _ => hS) (Or.inl ⟨by rfl, fun _ _ => ?_⟩) ?_
            rotate_left
            · go_simp
              try with_reducible rfl
            try simp only [Act.put]
            refine wpU_load (i := 5) (v := ?_) rfl (by kernel_rfl) (by kernel_rfl) (by kernel_rfl) (by decide) (by kernel_rfl) (by kernel_rfl) (fun _ _ _ h => h) hS (Or.inl ⟨by rfl, fun wl hl => ?_⟩) ?_
            rotate_left
            · have hl2 := hlS wl hl
              obtain ⟨l1, l2, l3, l4⟩ := hl2
              go_simp
              try with_reducible rfl
            try simp only [Act.put]
            refine wpU_pure (i := 6) (v := ?_) rfl (by kernel_rfl) (by kernel_rfl) (by kernel_rfl) (by decide) (fun _ _ _ h => h) (fun _ => hS) (Or.inl ⟨by rfl, fun _ _ => ?_⟩) ?_
            rotate_left
            · go_simp
              try with_reducible rfl
            try simp only [Act.put]
            refine wpU_pure (i := 7) (v := ?_) rfl (by kernel_rfl) (by kernel_rfl) (by kernel_rfl) (by decide) (fun _ _ _ h => h) (fun _ => hS) (Or.inl ⟨by rfl, fun _ _ => ?_⟩) ?_
            rotate_left
            · go_simp
              try with_reducible rfl
            try simp only [Act.put]
            refine wpU_pure (i := 8) (v := ?_) rfl (by kernel_rfl) (by kernel_rfl) (by kernel_rfl) (by decide) (fun _ _ _ h => h) (fun _ => hS) (Or.inl ⟨by rfl, fun _ _ => ?_⟩) ?_
            rotate_left
            · go_simp
              try with_reducible rfl
            try simp only [Act.put]
            refine wpU_pure (i := 9) (v := ?_) rfl (by kernel_rfl) (by kernel_rfl) (by kernel_rfl) (by decide) (fun _ _ _ h => h) (fun _ => hS) (Or.inl ⟨by rfl, fun _ _ => ?_⟩) ?_
            rotate_left
            · go_simp
              try with_reducible rfl
            try simp only [Act.put]
            refine wpU_pure (i := 10) (v := ?_) rfl (by kernel_rfl) (by kernel_rfl) (by kernel_rfl) (by decide) (fun _ _ _ h => h) (fun _ => hS) (Or.inl ⟨by rfl, fun _ _ => ?_⟩) ?_
            rotate_left
            · go_simp
              try with_reducible rfl
            try simp only [Act.put]
            refine wpU_load (i := 11) (v := ?_) rfl (by kernel_rfl) (by kernel_rfl) (by kernel_rfl) (by decide) (by kernel_rfl) (by kernel_rfl) (fun _ _ _ h => h) hS (Or.inl ⟨by rfl, fun wl hl => ?_⟩) ?_
            rotate_left
            · have hl2 := hlS wl hl
              obtain ⟨l1, l2, l3, l4⟩ := hl2
              go_simp
              try with_reducible rfl
            try simp only [Act.put]
            refine wpU_pure (i := 12) (v := ?_) rfl (by kernel_rfl) (by kernel_rfl) (by kernel_rfl) (by decide) (fun _ _ _ h => h) (fun _ => hS) (Or.inl ⟨by rfl, fun _ _ => ?_⟩) ?_
            rotate_left
            · go_simp
              try with_reducible rfl
            try simp only [Act.put]
            refine wpU_pure (i := 13) (v := ?_) rfl (by kernel_rfl) (by kernel_rfl) (by kernel_rfl) (by decide) (fun _ _ _ h => h) (fun _ => hS) (Or.inl ⟨by rfl, fun _ _ => ?_⟩) ?_
            rotate_left
            · go_simp
              try with_reducible rfl
            try simp only [Act.put]
            refine wpU_pure (i := 14) (v := ?_) rfl (by kernel_rfl) (by kernel_rfl) (by kernel_rfl) (by decide) (fun _ _ _ h => h) (fun _ => hS) (Or.inl ⟨by rfl, fun _ _ => ?_⟩) ?_
            rotate_left
            · go_simp
              try with_reducible rfl
            try simp only [Act.put]
            refine wpU_pure (i := 15) (v := ?_) rfl (by kernel_rfl) (by kernel_rfl) (by kernel_rfl) (by decide) (fun _ _ _ h => h) (fun _ => hS) (Or.inl ⟨by rfl, fun _ _ => ?_⟩) ?_
            rotate_left
            · go_simp
              try with_reducible rfl
            try simp only [Act.put]
            refine wpU_pure (i := 16) (v := ?_) rfl (by kernel_rfl) (by kernel_rfl) (by kernel_rfl) (by decide) (fun _ _ _ h => h) (fun _ => hS) (Or.inl ⟨by rfl, fun _ _ => ?_⟩) ?_
            rotate_left
            · go_simp
              try with_reducible rfl
            try simp only [Act.put]
            refine wpU_pure (i := 17) (v := ?_) rfl (by kernel_rfl) (by kernel_rfl) (by kernel_rfl) (by decide) (fun _ _ _ h => h) (fun _ => hS) (Or.inl ⟨by rfl, fun _ _ => ?_⟩) ?_
            rotate_left
            · go_simp
              try with_reducible rfl
            try simp only [Act.put]
            refine wpU_all [18] (by kernel_rfl) (by simp) ?_
            refine ReadyU.cons rfl (fun K hK => ?_) (ReadyU.nil)
            go_simp
            refine hK.out _ _ (fun h => Bool.noConfusion (show true = false from h)) ?_
            clear hK K
            refine wpU_pure (i := 19) (v := ?_) rfl (by kernel_rfl) (by kernel_rfl) (by kernel_rfl) (by decide) (fun _ _ _ h => h) (fun h => Bool.noConfusion (show true = false from h)) (Or.inl ⟨by rfl, fun _ _ => ?_⟩) ?_
            rotate_left
            · go_simp
              try with_reducible rfl
            try simp only [Act.put]
            refine wpU_pure (i := 20) (v := ?_) rfl (by kernel_rfl) (by kernel_rfl) (by kernel_rfl) (by decide) (fun _ _ _ h => h) (fun h => Bool.noConfusion (show true = false from h)) (Or.inl ⟨by rfl, fun _ _ => ?_⟩) ?_
            rotate_left
            · go_simp
              try with_reducible rfl
            try simp only [Act.put]
            refine wpU_all [21] (by kernel_rfl) (by simp) ?_
            refine ReadyU.cons rfl (fun K hK => ?_) (ReadyU.nil)
            go_simp
            refine hK.out _ _ (fun h => Bool.noConfusion (show true = false from h)) ?_
            clear hK K
            refine wpU_done (by kernel_rfl) ?_ _
            exact cut_end GD.out (by kernel_rfl)
          · intro us w8 h8
            have H8 := Lib.hid h8
            clear h8 c0 c1 u0 u1 hS hlS hmx em1 em2 ew hnz
            simp only [setAll, List.foldl_cons, List.foldl_nil, List.set_cons_zero, List.set_cons_succ]
            go_wp2_with fail
            exact ⟨⟨_, _, Lib.hid H8.out.1, Lib.hid H8.out.2⟩, by rw [World.ranges.left_eq H8.out.1, HLT.out.2]; exact HLT.out.1⟩
end Go.Proofs.YthkbbcdnmdjhdaaGreat
