/-
  Things that lie in blocks of their own, side by side; what lies in new blocks since a base world; what a call does to one leaves the others. No statement about the program.
  Disks and fuses as things of their own (Sep).
  DiskLists: the plain law.
-/
import Derived.Test.YthkbbcdnmdjhdaaD1
import Derived.Test.YthkbbcdnmdjhdaaD2
/-! XSep: Things that lie in blocks of their own, side by side; what lies in new blocks since a base world; what a call does to one leaves the others. No statement about the program. -/
namespace Go.Proofs.Ythkbbcdnmdjhdaa
open Go.RowKit

structure Thing where
  is : World → (Nat → Prop) → Prop
  lt : ∀ {w : World} {T : Nat → Prop}, is w T → ∀ b, T b → b < w.heap.size
  chg : ∀ {w w' : World} {T U : Nat → Prop}, is w T → Chg U w w' → (∀ b, T b → ¬ U b) → is w' T
/-- Nothing. -/
def emp : Thing := ⟨fun _ T => ∀ b, ¬ T b, fun h b hb => (h b hb).elim, fun h _ _ => h⟩
/-- Two, side by side. -/
def Thing.star (X Y : Thing) : Thing :=
  ⟨fun w T => ∃ A B, X.is w A ∧ Y.is w B ∧ (∀ b, A b → ¬ B b) ∧ ∀ b, T b ↔ A b ∨ B b,
   fun ⟨_, _, h1, h2, _, h4⟩ b hb => ((h4 b).1 hb).elim (X.lt h1 b) (Y.lt h2 b),
   fun ⟨A, B, h1, h2, h3, h4⟩ hc hn => ⟨A, B, X.chg h1 hc fun b hb => hn b ((h4 b).2 (.inl hb)), Y.chg h2 hc fun b hb => hn b ((h4 b).2 (.inr hb)), h3, h4⟩⟩
/-- Whoever has X has Y, too, in no more blocks. -/
def Thing.Ent (X Y : Thing) : Prop := ∀ w T, X.is w T → ∃ T', (∀ b, T' b → T b) ∧ Y.is w T'
section
variable {X Y Z X' Y' : Thing}
theorem Thing.Ent.refl (X : Thing) : X.Ent X := fun _ T h => ⟨T, fun _ h => h, h⟩
theorem Thing.Ent.trans (h : X.Ent Y) (k : Y.Ent Z) : X.Ent Z := fun w T hT => by
  obtain ⟨T1, h1, h2⟩ := h w T hT
  obtain ⟨T2, h3, h4⟩ := k w T1 h2
  exact ⟨T2, fun b hb => h1 b (h3 b hb), h4⟩
theorem Thing.Ent.star (h : X.Ent X') (k : Y.Ent Y') : (X.star Y).Ent (X'.star Y') := fun w T ⟨A, B, h1, h2, h3, h4⟩ => by
  obtain ⟨A', a1, a2⟩ := h w A h1
  obtain ⟨B', b1, b2⟩ := k w B h2
  exact ⟨fun b => A' b ∨ B' b, fun b hb => (h4 b).2 (hb.elim (fun h => .inl (a1 b h)) fun h => .inr (b1 b h)), A', B', a2, b2, fun b ha hb => h3 b (a1 b ha) (b1 b hb), fun _ => Iff.rfl⟩
theorem Thing.Ent.left : (X.star Y).Ent X := fun _ _ ⟨A, _, h1, _, _, h4⟩ => ⟨A, fun b hb => (h4 b).2 (.inl hb), h1⟩
theorem Thing.Ent.right : (X.star Y).Ent Y := fun _ _ ⟨_, B, _, h2, _, h4⟩ => ⟨B, fun b hb => (h4 b).2 (.inr hb), h2⟩
theorem Thing.Ent.comm : (X.star Y).Ent (Y.star X) := fun _ _ ⟨A, B, h1, h2, h3, h4⟩ => ⟨_, fun _ h => h, B, A, h2, h1, fun b hb ha => h3 b ha hb, fun b => (h4 b).trans Or.comm⟩
theorem Thing.Ent.assoc : ((X.star Y).star Z).Ent (X.star (Y.star Z)) := fun _ _ ⟨_, C, ⟨A, B, h1, h2, h3, h4⟩, h5, h6, h7⟩ =>
  ⟨_, fun _ h => h, A, fun b => B b ∨ C b, h1, ⟨B, C, h2, h5, fun b hb hc => h6 b ((h4 b).2 (.inr hb)) hc, fun _ => Iff.rfl⟩, fun b ha hb => hb.elim (h3 b ha) (h6 b ((h4 b).2 (.inl ha))), fun b => (h7 b).trans ((or_congr (h4 b) Iff.rfl).trans or_assoc)⟩
theorem Thing.Ent.assoc' : (X.star (Y.star Z)).Ent ((X.star Y).star Z) :=
  Thing.Ent.comm.trans ((Thing.Ent.star .comm (.refl X)).trans (Thing.Ent.assoc.trans (Thing.Ent.comm.trans (Thing.Ent.star .comm (.refl _)))))
/-- The first two change their places. -/
theorem Thing.Ent.swap : (X.star (Y.star Z)).Ent (Y.star (X.star Z)) := Thing.Ent.assoc'.trans ((Thing.Ent.star .comm (.refl _)).trans .assoc)
theorem Thing.Ent.emp : X.Ent (X.star emp) := fun _ T h => ⟨T, fun _ h => h, T, fun _ => False, h, fun _ h => h, fun _ _ h => h, fun _ => (or_false _).symm ▸ Iff.rfl⟩
end
/-- X lies in blocks that are new since w0; nothing that was there then has turned. -/
def Lab (w0 w : World) (X : Thing) : Prop := ∃ T, X.is w T ∧ (∀ b, T b → w0.heap.size ≤ b) ∧ Ext w0 w
/-- What a call made of what lay in T. -/
def Made (X : Thing) (T : Nat → Prop) (w w' : World) : Prop := Chg T w w' ∧ ∃ T', (∀ b, T' b → Grow T w w' b) ∧ X.is w' T'
section
variable {w0 w w' : World} {X Y Z X' : Thing}
theorem Lab.toExt (h : Lab w0 w X) : Ext w0 w := by obtain ⟨T, _, _, h⟩ := h; exact h
theorem Lab.ent (h : Lab w0 w X) (k : X.Ent Y) : Lab w0 w Y := by
  obtain ⟨T, h1, h2, h3⟩ := h
  obtain ⟨T', h4, h5⟩ := k w T h1
  exact ⟨T', h5, fun b hb => h2 b (h4 b hb), h3⟩
theorem Lab.ext (h : Lab w0 w X) (k : Ext w w') : Lab w0 w' X := by
  obtain ⟨T, h1, h2, h3⟩ := h
  exact ⟨T, X.chg h1 (Chg.of_ext k (fun _ => False)) (fun _ _ h => h), h2, Ext.trans h3 k⟩
theorem Lab.start (w : World) : Lab w w emp := ⟨fun _ => False, fun _ h => h, fun _ h => h.elim, Ext.refl w⟩
theorem Lab.drew (h : Lab w0 w X) : Lab w0 w.drew X := h.ext (Ext.of_drawn w 1)
theorem Lab.left (h : Lab w0 w (X.star Y)) : Lab w0 w X := h.ent .left
theorem Lab.right (h : Lab w0 w (X.star Y)) : Lab w0 w Y := h.ent .right
theorem Lab.comm (h : Lab w0 w (X.star Y)) : Lab w0 w (Y.star X) := h.ent .comm
theorem Lab.swap (h : Lab w0 w (X.star (Y.star Z))) : Lab w0 w (Y.star (X.star Z)) := h.ent .swap
theorem Lab.assoc (h : Lab w0 w ((X.star Y).star Z)) : Lab w0 w (X.star (Y.star Z)) := h.ent .assoc
theorem Lab.assoc' (h : Lab w0 w (X.star (Y.star Z))) : Lab w0 w ((X.star Y).star Z) := h.ent .assoc'
theorem Lab.emp (h : Lab w0 w X) : Lab w0 w (X.star emp) := h.ent .emp
theorem Lab.third {R : Thing} (h : Lab w0 w (X.star (Y.star (Z.star R)))) : Lab w0 w (Z.star (X.star (Y.star R))) := (h.ent (.star (.refl _) .swap)).swap
theorem Lab.third' {R : Thing} (h : Lab w0 w (Z.star (X.star (Y.star R)))) : Lab w0 w (X.star (Y.star (Z.star R))) := h.swap.ent (.star (.refl _) .swap)
theorem Lab.fourth {V R : Thing} (h : Lab w0 w (X.star (Y.star (Z.star (V.star R))))) : Lab w0 w (V.star (X.star (Y.star (Z.star R)))) := (h.ent (.star (.refl _) (.star (.refl _) .swap))).third
theorem Lab.fourth' {V R : Thing} (h : Lab w0 w (V.star (X.star (Y.star (Z.star R))))) : Lab w0 w (X.star (Y.star (Z.star (V.star R)))) := h.third'.ent (.star (.refl _) (.star (.refl _) .swap))
theorem Lab.flip {V R : Thing} (h : Lab w0 w (X.star (Y.star (Z.star (V.star R))))) : Lab w0 w (Z.star (V.star (X.star (Y.star R)))) := (h.assoc'.ent (.star (.refl _) .assoc')).swap.assoc.ent (.star (.refl _) (.star (.refl _) .assoc))
theorem Lab.fifth' {V U R : Thing} (h : Lab w0 w (X.star (Y.star (Z.star (V.star (U.star R)))))) : Lab w0 w (Y.star (Z.star (V.star (U.star (X.star R))))) := h.swap.ent (.star (.refl _) (.trans .swap (.star (.refl _) (.trans .swap (.star (.refl _) .swap)))))
theorem Lab.in_ (h : Lab w0 w X) (k : X.Ent (Y.star Z)) : Lab w0 w (Y.star Z) := h.ent k
/-- What was made of the first leaves the other. -/
theorem Lab.made (h : Lab w0 w (X.star Y)) (k : ∀ T, X.is w T → Made X' T w w') : Lab w0 w' (X'.star Y) := by
  obtain ⟨T, ⟨A, B, h1, h2, h3, h4⟩, h5, h6⟩ := h
  obtain ⟨hc, T', k1, k2⟩ := k A h1
  have lt := Y.lt h2
  refine ⟨fun b => T' b ∨ B b, ⟨T', B, k2, Y.chg h2 hc (fun b hb ha => h3 b ha hb), fun b hb hB => ?_, fun _ => Iff.rfl⟩, fun b hb => ?_, ?_⟩
  · rcases k1 b hb with x | x
    · exact h3 b x hB
    · have := lt b hB; omega
  · rcases hb with hb | hb
    · rcases k1 b hb with x | x
      · exact h5 b ((h4 b).2 (.inl x))
      · have := h6.size; omega
    · exact h5 b ((h4 b).2 (.inr hb))
  · exact ⟨hc.os.trans h6.os, hc.tape.trans h6.tape, hc.output.trans h6.output, Nat.le_trans h6.size hc.size, fun b hb => (hc.block b (Nat.lt_of_lt_of_le hb h6.size) (fun ha => by have := h5 b ((h4 b).2 (.inl ha)); omega)).trans (h6.block b hb)⟩
theorem Lab.call {P : Program} {f : FuncId} {args : Array Value} {Q : Thing → Ending → Prop} (h : Lab w0 w (X.star Y)) (k : ∀ T, X.is w T → Calls P f args w fun e w' => ∃ X', Q X' e ∧ Made X' T w w') :
    Calls P f args w fun e w' => ∃ X', Q X' e ∧ Lab w0 w' (X'.star Y) := by
  obtain ⟨T, ⟨A, B, h1, h2, h3, h4⟩, h5, h6⟩ := h
  refine (k A h1).mono fun e w' ⟨X', q, hm⟩ => ⟨X', q, ?_⟩
  have lt := Y.lt h2
  obtain ⟨hc, T', k1, k2⟩ := hm
  refine ⟨fun b => T' b ∨ B b, ⟨T', B, k2, Y.chg h2 hc (fun b hb ha => h3 b ha hb), fun b hb hB => ?_, fun _ => Iff.rfl⟩, fun b hb => ?_, ?_⟩
  · rcases k1 b hb with x | x
    · exact h3 b x hB
    · have := lt b hB; omega
  · rcases hb with hb | hb
    · rcases k1 b hb with x | x
      · exact h5 b ((h4 b).2 (.inl x))
      · have := h6.size; omega
    · exact h5 b ((h4 b).2 (.inr hb))
  · exact ⟨hc.os.trans h6.os, hc.tape.trans h6.tape, hc.output.trans h6.output, Nat.le_trans h6.size hc.size, fun b hb => (hc.block b (Nat.lt_of_lt_of_le hb h6.size) (fun ha => by have := h5 b ((h4 b).2 (.inl ha)); omega)).trans (h6.block b hb)⟩
/-- Something that was made anew. -/
theorem Lab.new (h : Lab w0 w Y) (hx : Ext w w') {T : Nat → Prop} (hX : X.is w' T) (hT : ∀ b, T b → w.heap.size ≤ b) : Lab w0 w' (X.star Y) := by
  obtain ⟨B, h2, h5, h6⟩ := h
  have lt := Y.lt h2
  exact ⟨fun b => T b ∨ B b, ⟨T, B, hX, Y.chg h2 (Chg.of_ext hx (fun _ => False)) (fun _ _ h => h), fun b hb hB => by have := lt b hB; have := hT b hb; omega, fun _ => Iff.rfl⟩, fun b hb => hb.elim (fun hb => Nat.le_trans h6.size (hT b hb)) (h5 b), Ext.trans h6 hx⟩
theorem Lab.get (h : Lab w0 w X) : ∃ T, X.is w T := by obtain ⟨T, h, _⟩ := h; exact ⟨T, h⟩
theorem Made.of_ext {T : Nat → Prop} (hX : X.is w T) (h : Ext w w') : Made X T w w' := ⟨Chg.of_ext h T, T, fun _ hb => .inl hb, X.chg hX (Chg.of_ext h (fun _ => False)) (fun _ _ h => h)⟩
end
/-- A slice that owns its row. -/
def ownT (e : TypeId) (v : Value) (cs : List Value) : Thing :=
  ⟨fun w T => Own w 0 e v cs ∧ ∀ b, T b ↔ v.ownBlock = some b, fun h b hb => Own.lt h.1 ((h.2 b).1 hb), fun h hc hn => ⟨Own.chg h.1 hc fun b hb => hn b ((h.2 b).2 hb), h.2⟩⟩
theorem ownT.own {w0 w : World} {e : TypeId} {v : Value} {cs : List Value} (h : Lab w0 w (ownT e v cs)) : Own w 0 e v cs := by obtain ⟨T, h, _⟩ := h; exact h.1
/-- A row in a block. -/
def rowT (b : Nat) (e : TypeId) (cs : Array Value) : Thing :=
  ⟨fun w T => Row w b e cs ∧ ∀ k, T k ↔ b = k, fun h k hk => by rw [← (h.2 k).1 hk]; exact h.1.lt, fun h hc hn => ⟨h.1.chg hc (hn b ((h.2 b).2 rfl)), h.2⟩⟩
theorem rowT.row {w0 w : World} {b : Nat} {e : TypeId} {cs : Array Value} (h : Lab w0 w (rowT b e cs)) : Row w b e cs := by obtain ⟨T, h, _⟩ := h; exact h.1
/-- One cell of a row written. -/
theorem Lab.set {w0 w : World} {Z : Thing} {e : TypeId} {g n c : Nat} {cs : List Value} (h : Lab w0 w ((ownT e (.slice (some ⟨g, 0, none⟩) n c) cs).star Z)) (i : Nat) (u : Value) : Lab w0 (w.setCell ⟨g, i, none⟩ u) ((ownT e (.slice (some ⟨g, 0, none⟩) n c) (cs.set i u)).star Z) :=
  h.made fun T hT => by
    have hg : T g := (hT.2 g).2 rfl
    have hO : Own w 0 e (.slice (some ⟨g, 0, none⟩) n c) cs := hT.1
    exact ⟨(Chg.refl T w).at g i (.inl hg) u, T, fun b hb => .inl hb, hO.set i u, hT.2⟩
/-- One appended. -/
theorem wp_lapp1 {P : Program} {W w0 : World} {Z : Thing} {o : Oper} {a : Act} {Q : Exit → Act → World → Prop} {K : Act → World → Prop} (s x : Operand) (t e : TypeId) (z : Value) (bytes : Nat) (ho : o.op = .call { callee := .builtin .append, args := #[s, x], argTypes := #[t, t] }) (ht : P.underlying t = some (.slice e))
    (hi : (P.info? e).map (fun i => (i.zero, i.size, i.bytes)) = some (some z, 1, bytes)) (hz : z.cells = #[z]) (hby : bytes ≤ 64)
    {xa : Option Addr} {n xc q : Nat} {u : Value} {cs : List Value} (hs : a.eval s = .slice xa n xc) (hx : a.eval x = .slice (some ⟨q, 0, none⟩) 1 1) (hq : q = W.heap.size) (hn : n = cs.length)
    (hL : Lab w0 W ((ownT e (.slice xa n xc) cs).star Z)) (hu : u.oneCell' = true) (hlen : cs.length ≤ 100000)
    (hK : ∀ ad c w', Lab w0 w' ((ownT e (.slice ad (n + 1) c) (cs ++ [u])).star Z) → K (a.put o.dst (.slice ad (n + 1) c)) w') : Oper.wp P o a (W.alloc (.cells #[u] e)) K Q := by
  subst hq
  subst hn
  have x6 : Ext W (W.alloc (.cells #[u] e)) := (Ext.refl W).alloc (Nat.le_refl _) _
  have hL2 := hL.ext x6
  have hsrc : Cells (W.alloc (.cells #[u] e)) (.slice (some ⟨W.heap.size, 0, none⟩) 1 1) [u] := (Own.new W 0 e #[u] (Nat.zero_le _) (by unfold maxLen; simp)).cells
  have hO := ownT.own hL2.left
  have hb : (2 * (cs.length + [u].length) + 768) * bytes ≤ 281474976710656 := by
    have : (2 * (cs.length + 1) + 768) * bytes ≤ 200770 * 64 := Nat.mul_le_mul (by omega) hby
    simp only [List.length_singleton]; omega
  refine wp_appx s x t t e z bytes ho ht hi hz hs hO hx (Cells.src ht hsrc (by simpa using hu)) (by simp only [List.length_singleton, maxLen]; omega) hb (Nat.zero_le _) (cs.length + 1) (by simp) fun ad c w' ⟨h1, h2, h3⟩ => hK ad c w' (hL2.made fun T hT => ⟨(Chg.refl T _).grown h2 fun k hk => .inl ((hT.2 k).2 hk), fun b => (Value.slice ad (cs.length + 1) c).ownBlock = some b, fun b hb => ?_, by
    have e1 : (cs ++ [u]).length = cs.length + 1 := by simp
    exact h1, fun _ => Iff.rfl⟩)
  rcases h3 with h3 | ⟨k, h3, h4⟩
  · rw [h3] at hb; exact .inl ((hT.2 b).2 hb)
  · rw [h3] at hb; cases hb; exact .inr ⟨h4, h1.lt h3⟩
theorem ownT.nil {w0 w : World} {Z : Thing} (e : TypeId) (h : Lab w0 w Z) : Lab w0 w ((ownT e (.slice none 0 0) []).star Z) :=
  h.new (Ext.refl w) (X := ownT e (.slice none 0 0) []) (T := fun _ => False) ⟨Own.nil _ _ _, fun b => ⟨False.elim, fun h => by cases h⟩⟩ fun _ h => h.elim
end Go.Proofs.Ythkbbcdnmdjhdaa
/-! XDkZ: Disks and fuses as things of their own (Sep). -/
namespace Go.Proofs.Ythkbbcdnmdjhdaa
open Go.RowKit Dk
set_option maxRecDepth 100000
set_option maxHeartbeats 4000000

def fuseT (fp : Option Nat) (z : Option FS) : Thing :=
  ⟨fun w T => FzAt w fp z ∧ ∀ b, T b ↔ fp = some b, fun h b hb => h.1.lt b ((h.2 b).1 hb), fun h hc hn => ⟨h.1.chg hc fun b hb => hn b ((h.2 b).2 hb), h.2⟩⟩
def simT (s : Nat) (fp : Option Nat) (d : DS) : Thing := ⟨fun w T => SimAt w s fp d T, fun h => h.lt', fun h hc hn => h.chg hc hn⟩
section
variable {w0 w w' : World} {Y Z : Thing} {s : Nat} {fp : Option Nat} {z : Option FS} {d : DS}
theorem Lab.fz (h : Lab w0 w ((fuseT fp z).star Z)) : FzAt w fp z := by obtain ⟨T, h⟩ := h.left.get; exact h.1
theorem Lab.simAt (h : Lab w0 w (simT s fp d)) : ∃ S, SimAt w s fp d S := h.get
theorem Lab.raw (h : Lab w0 w (simT s fp d)) : ∃ m es, Raw w s fp m es d := by obtain ⟨S, m, es, h, _⟩ := h.get; exact ⟨m, es, h⟩
theorem Lab.newfuse (h : Lab w0 w Y) : Calls Try.prog 34 #[] w fun e w' => ∃ f, e = .returned (.pointer (some ⟨f, 0, none⟩)) ∧ Lab w0 w' ((fuseT (some f) (some ⟨0, 0, false⟩)).star Y) :=
  (newfuse_any w).mono fun _ w' ⟨h1, h2, h3, h4⟩ => ⟨_, h1, h.new h3 (X := fuseT (some w.heap.size) (some ⟨0, 0, false⟩)) (T := fun b => some w.heap.size = some b) ⟨h2, fun _ => Iff.rfl⟩ fun _ hb => by cases hb; exact Nat.le_refl _⟩
theorem Lab.newdisk (n : Int) (h : Lab w0 w ((fuseT fp z).star Y)) : Calls Try.prog 14 #[.int .i64 n, fptr fp] w fun e w' => ∃ s, e = .returned (.pointer (some ⟨s, 0, none⟩)) ∧ Lab w0 w' ((fuseT fp z).star ((simT s fp ⟨mostOf n, false, 0, []⟩).star Y)) :=
  (dnew_any n fp w fun b hb => h.fz.lt b hb).mono fun _ w' ⟨h1, h2, h3⟩ => ⟨_, h1, (h.new h3 (X := simT (w.heap.size + 1) fp ⟨mostOf n, false, 0, []⟩) (T := Grow (fun _ => False) w w') h2 fun _ hb => hb.elim False.elim fun h => h.1).swap⟩
theorem Lab.nofuse (h : Lab w0 w Y) : Lab w0 w ((fuseT none none).star Y) := h.new (Ext.refl w) (T := fun _ => False) ⟨trivial, fun b => ⟨False.elim, fun e => by cases e⟩⟩ fun _ h => h.elim
theorem Lab.simout {P : Program} {f : FuncId} {args : Array Value} {r : Nat × Option FS × DS} (hL : Lab w0 w ((fuseT fp z).star ((simT s fp d).star Y))) (h : ∀ S, FzAt w fp z → SimAt w s fp d S → Calls P f args w (SimOut s fp S w r)) :
    Calls P f args w fun e w' => e = .returned (.int .i64 (r.1 : Nat)) ∧ Lab w0 w' ((fuseT fp r.2.1).star ((simT s fp r.2.2).star Y)) := by
  refine (Lab.call (Q := fun X' e => e = .returned (.int .i64 (r.1 : Nat)) ∧ X' = (fuseT fp r.2.1).star (simT s fp r.2.2)) hL.assoc' ?_).mono ?_
  · rintro T ⟨A, S, ⟨h1, h2⟩, h3, h4, h5⟩
    have hS : SimAt w s fp d S := h3
    refine (h S h1 hS).mono fun e w' ⟨k1, k2, k3, k4⟩ => ⟨_, ⟨k1, rfl⟩, k4.mono (fun b _ hb => (h5 b).2 (hb.elim .inr fun hb => .inl ((h2 b).2 hb))), fun b => fp = some b ∨ Grow S w w' b, fun b hb => ?_, fun b => fp = some b, Grow S w w', ⟨k2, fun _ => Iff.rfl⟩, k3, fun b hb hg => ?_, fun _ => Iff.rfl⟩
    · rcases hb with hb | hb | hb
      · exact .inl ((h5 b).2 (.inl ((h2 b).2 hb)))
      · exact .inl ((h5 b).2 (.inr hb))
      · exact .inr hb
    · obtain ⟨_, _, _, _, _, h6⟩ := k3
      exact h6 b hb hg
  · rintro e w' ⟨X', ⟨h1, rfl⟩, h2⟩
    exact ⟨h1, h2.assoc⟩
theorem Lab.simturn {P : Program} {f : FuncId} {args : Array Value} {d' : DS} {e0 : Ending} (hL : Lab w0 w ((simT s fp d).star Y)) (h : ∀ S, SimAt w s fp d S → Calls P f args w fun e w' => e = e0 ∧ SimAt w' s fp d' S ∧ Chg S w w') :
    Calls P f args w fun e w' => e = e0 ∧ Lab w0 w' ((simT s fp d').star Y) := by
  refine (Lab.call (Q := fun X' e => e = e0 ∧ X' = simT s fp d') hL ?_).mono ?_
  · intro T hT
    exact (h T hT).mono fun e w' ⟨k1, k2, k3⟩ => ⟨_, ⟨k1, rfl⟩, k3, T, fun b hb => .inl hb, k2⟩
  · rintro e w' ⟨X', ⟨h1, rfl⟩, h2⟩
    exact ⟨h1, h2⟩
/-- An operation that also hands out a slice of its own. -/
theorem Lab.simgive {P : Program} {f : FuncId} {args : Array Value} {z' : Option FS} {d' : DS} {ty : TypeId} {cs : List Value} {E : Value → Ending} (hL : Lab w0 w ((fuseT fp z).star ((simT s fp d).star Y)))
    (h : ∀ S, FzAt w fp z → SimAt w s fp d S → Calls P f args w fun e w' => ∃ u, e = E u ∧ Own w' w.heap.size ty u cs ∧ FzAt w' fp z' ∧ SimAt w' s fp d' S ∧ Chg (fun b => S b ∨ fp = some b) w w') :
    Calls P f args w fun e w' => ∃ u, e = E u ∧ Lab w0 w' ((ownT ty u cs).star ((fuseT fp z').star ((simT s fp d').star Y))) := by
  refine (Lab.call (Q := fun X' e => ∃ u, e = E u ∧ X' = (ownT ty u cs).star ((fuseT fp z').star (simT s fp d'))) hL.assoc' ?_).mono ?_
  · rintro T ⟨A, S, ⟨h1, h2⟩, h3, h4, h5⟩
    have hS : SimAt w s fp d S := h3
    have lt := hS.lt'
    have ltf := h1.lt
    refine (h S h1 hS).mono fun e w' ⟨u, k1, k0, k2, k3, k4⟩ => ⟨_, ⟨u, k1, rfl⟩, k4.mono (fun b _ hb => (h5 b).2 (hb.elim .inr fun hb => .inl ((h2 b).2 hb))), fun b => u.ownBlock = some b ∨ (fp = some b ∨ S b), fun b hb => ?_, fun b => u.ownBlock = some b, fun b => fp = some b ∨ S b, ⟨k0.mono (Nat.zero_le _), fun _ => Iff.rfl⟩,
      ⟨fun b => fp = some b, S, ⟨k2, fun _ => Iff.rfl⟩, k3, fun b hb hg => ?_, fun _ => Iff.rfl⟩, fun b hb hg => ?_, fun _ => Iff.rfl⟩
    · rcases hb with hb | hb | hb
      · exact .inr ⟨k0.block b hb, k0.lt hb⟩
      · exact .inl ((h5 b).2 (.inl ((h2 b).2 hb)))
      · exact .inl ((h5 b).2 (.inr hb))
    · obtain ⟨_, _, _, _, _, h6⟩ := k3
      exact h6 b hb hg
    · have := k0.block b hb
      rcases hg with hg | hg
      · have := ltf b hg; omega
      · have := lt b hg; omega
  · rintro e w' ⟨X', ⟨u, h1, rfl⟩, h2⟩
    exact ⟨u, h1, h2.assoc.ent (.star (.refl _) .assoc)⟩
theorem Lab.write (hL : Lab w0 w ((fuseT fp z).star ((simT s fp d).star Y))) (p : Path) (v : Value) (b : List UInt8) (hzo : zops z < 1099511627776) (hp : p.length ≤ maxLen) (hv : Bytes w v b) (hb : b.length ≤ 140737488351232) (ht : tot d.fs ≤ 1099511627776) (hn : d.fs.length ≤ 4096) :
    Calls Try.prog 22 #[.pointer (some ⟨s, 0, none⟩), .string (bstr p), v] w fun e w' => e = .returned (.int .i64 ((writes z d p b).1 : Nat)) ∧ Lab w0 w' ((fuseT fp (writes z d p b).2.1).star ((simT s fp (writes z d p b).2.2).star Y)) :=
  hL.simout fun S hz hS => write_any s fp z d S p v b w hS hz hzo hp hv hb ht hn
theorem Lab.sync (hL : Lab w0 w ((fuseT fp z).star ((simT s fp d).star Y))) (p : Path) (hzo : zops z < 1099511627776) (hp : p.length ≤ maxLen) :
    Calls Try.prog 108 #[.pointer (some ⟨s, 0, none⟩), .string (bstr p)] w fun e w' => e = .returned (.int .i64 ((syncs z d p).1 : Nat)) ∧ Lab w0 w' ((fuseT fp (syncs z d p).2.1).star ((simT s fp (syncs z d p).2.2).star Y)) :=
  hL.simout fun S hz hS => sync_any s fp z d S p w hS hz hzo hp
theorem Lab.delete (hL : Lab w0 w ((fuseT fp z).star ((simT s fp d).star Y))) (p : Path) (hzo : zops z < 1099511627776) (hp : p.length ≤ maxLen) :
    Calls Try.prog 28 #[.pointer (some ⟨s, 0, none⟩), .string (bstr p)] w fun e w' => e = .returned (.int .i64 ((deletes z d p).1 : Nat)) ∧ Lab w0 w' ((fuseT fp (deletes z d p).2.1).star ((simT s fp (deletes z d p).2.2).star Y)) :=
  hL.simout fun S hz hS => delete_any s fp z d S p w hS hz hzo hp
theorem Lab.rename (hL : Lab w0 w ((fuseT fp z).star ((simT s fp d).star Y))) (p q : Path) (hzo : zops z < 1099511627776) (hp : p.length ≤ maxLen) (hq : q.length ≤ maxLen) (hn : d.fs.length ≤ 4096) :
    Calls Try.prog 106 #[.pointer (some ⟨s, 0, none⟩), .string (bstr p), .string (bstr q)] w fun e w' => e = .returned (.int .i64 ((renames z d p q).1 : Nat)) ∧ Lab w0 w' ((fuseT fp (renames z d p q).2.1).star ((simT s fp (renames z d p q).2.2).star Y)) :=
  hL.simout fun S hz hS => rename_any s fp z d S p q w hS hz hzo hp hq hn
theorem Lab.read (hL : Lab w0 w ((fuseT fp z).star ((simT s fp d).star Y))) (p : Path) (hzo : zops z < 1099511627776) (hp : p.length ≤ maxLen) (ht : tot d.fs ≤ 1099511627776) :
    Calls Try.prog 25 #[.pointer (some ⟨s, 0, none⟩), .string (bstr p)] w fun e w' => ∃ u, e = .returned (.tuple #[u, .int .i64 (opens z d p [] : Nat)]) ∧ Lab w0 w' ((ownT 5 u (bvs (readb z d p))).star ((fuseT fp (begins z d [p]).2.1).star ((simT s fp (begins z d [p]).2.2).star Y))) :=
  hL.simgive fun S hz hS => read_any s fp z d S p w hS hz hzo hp ht
theorem Lab.crash (hL : Lab w0 w ((simT s fp d).star Y)) (keep : Int) (hk : -9223372036854775808 ≤ keep ∧ keep ≤ 9223372036854775807) (ht : tot d.fs ≤ 1099511627776) :
    Calls Try.prog 30 #[.pointer (some ⟨s, 0, none⟩), .int .i64 keep] w fun e w' => e = .returned (.tuple #[]) ∧ Lab w0 w' ((simT s fp (d.crash keep)).star Y) :=
  hL.simturn fun S hS => crash_any s fp d S keep hk w hS ht
theorem Lab.wipe (hL : Lab w0 w ((simT s fp d).star Y)) :
    Calls Try.prog 20 #[.pointer (some ⟨s, 0, none⟩)] w fun e w' => e = .returned (.tuple #[]) ∧ Lab w0 w' ((simT s fp { d with fs := [] }).star Y) :=
  hL.simturn fun S hS => wipe_any s fp d S w hS
theorem Lab.offline (hL : Lab w0 w ((simT s fp d).star Y)) (b : Bool) :
    Calls Try.prog 19 #[.pointer (some ⟨s, 0, none⟩), .bool b] w fun e w' => e = .returned (.tuple #[]) ∧ Lab w0 w' ((simT s fp { d with off := b }).star Y) :=
  hL.simturn fun S hS => offline_any s fp d S b w hS
theorem Lab.fail (hL : Lab w0 w ((simT s fp d).star Y)) (n : Int) (hn : n ≤ 9223372036854775807) :
    Calls Try.prog 21 #[.pointer (some ⟨s, 0, none⟩), .int .i64 n] w fun e w' => e = .returned (.tuple #[]) ∧ Lab w0 w' ((simT s fp { d with bad := n.toNat }).star Y) :=
  hL.simturn fun S hS => fail_any s fp d S n hn w hS
/-! what only reads: the disk, and all that is there (Z) -/
theorem Lab.used (hL : Lab w0 w Z) (hS : Lab w0 w (simT s fp d)) (ht : tot d.fs ≤ 1099511627776) :
    Calls Try.prog 41 #[.pointer (some ⟨s, 0, none⟩)] w fun e w' => e = .returned (.int .i64 (tot d.fs : Nat)) ∧ Lab w0 w' Z := by
  obtain ⟨m, es, h⟩ := hS.raw
  exact (used_any s m fp es d w h ht).mono fun e w' ⟨h1, h2⟩ => ⟨h1, hL.ext h2⟩
theorem Lab.room (hL : Lab w0 w Z) (hS : Lab w0 w (simT s fp d)) (ht : tot d.fs ≤ 1099511627776) :
    Calls Try.prog 107 #[.pointer (some ⟨s, 0, none⟩)] w fun e w' => e = .returned (.int .i64 ((d.most : Int) - tot d.fs)) ∧ Lab w0 w' Z := by
  obtain ⟨S, h⟩ := hS.simAt
  exact (sroom_any s fp d S w h ht).mono fun e w' ⟨h1, h2⟩ => ⟨h1, hL.ext h2⟩
theorem Lab.look (hL : Lab w0 w Z) (hS : Lab w0 w (simT s fp d)) (p : Path) (hp : p.length ≤ maxLen) (ht : tot d.fs ≤ 1099511627776) :
    Calls Try.prog 31 #[.pointer (some ⟨s, 0, none⟩), .string (bstr p)] w fun e w' => ∃ u, e = .returned (.tuple #[u, .bool (match Dk.get p d.fs with | some f => f.sure | none => false), .bool (Dk.get p d.fs).isSome]) ∧ Lab w0 w' ((ownT 5 u (bvs (match Dk.get p d.fs with | some f => f.b | none => []))).star Z) := by
  obtain ⟨S, h⟩ := hS.simAt
  exact (look_any s fp d S p w h hp ht).mono fun e w' ⟨v, h1, h2, h3⟩ => ⟨v, h1, hL.new h3 (X := ownT 5 v _) (T := fun b => v.ownBlock = some b) ⟨h2.mono (Nat.zero_le _), fun _ => Iff.rfl⟩ fun b hb => h2.block b hb⟩
theorem Lab.fset {f : Nat} {zz : FS} (hL : Lab w0 w ((fuseT (some f) (some zz)).star Y)) (n : Int) (hn : -9223372036854775808 ≤ n ∧ n ≤ 9223372036854775807) :
    Calls Try.prog 29 #[.pointer (some ⟨f, 0, none⟩), .int .i64 n] w fun e w' => e = .returned (.tuple #[]) ∧ Lab w0 w' ((fuseT (some f) (some ⟨n, 0, false⟩)).star Y) := by
  refine (Lab.call (Q := fun X' e => e = .returned (.tuple #[]) ∧ X' = fuseT (some f) (some ⟨n, 0, false⟩)) hL ?_).mono ?_
  · intro T hT
    exact (fset_any f zz n hn w hT.1).mono fun e w' ⟨k1, k2, k3, k4⟩ => ⟨_, ⟨k1, rfl⟩, k3.mono (fun b _ hb => (hT.2 b).2 hb), T, fun b hb => .inl hb, k2, hT.2⟩
  · rintro e w' ⟨X', ⟨h1, rfl⟩, h2⟩
    exact ⟨h1, h2⟩
end
end Go.Proofs.Ythkbbcdnmdjhdaa
/-! XDkLp: DiskLists: the plain law. -/
namespace Go.Proofs.Ythkbbcdnmdjhdaa
open Go.RowKit Dk
set_option maxRecDepth 100000
set_option maxHeartbeats 4000000

/-- A disk that is on, with room for much. -/
def DS.calm (d : DS) (n : Nat) : Prop := d.most = n ∧ d.off = false ∧ d.bad = 0
theorem calm_begins {d : DS} {n : Nat} (h : DS.calm d n) (ps : List Path) (hp : ps.all okP = true) : begins none d ps = (0, none, d) := by
  unfold begins
  rw [h.2.1, h.2.2, hp]; rfl
/-- How much is on a disk behind i deeds. -/
structure Few (d : DS) (i : Nat) : Prop where
  up : Up d.fs
  len : d.fs.length ≤ i
  tot : tot d.fs ≤ i * 5000
theorem Few.more {d : DS} {i : Nat} (h : Few d i) : Few d (i + 1) := ⟨h.up, by have := h.len; omega, by have := h.tot; omega⟩
theorem calm_writes {d : DS} {n i : Nat} (h : DS.calm d n) (hf : Few d i) (p : Path) (hp : okP p = true) (b : List UInt8) (hb : b.length ≤ 5000) (hn : (i + 1) * 5000 ≤ n) (hi : i < 4096) :
    writes none d p b = (0, none, { d with fs := put p ⟨b, false⟩ d.fs }) ∧ Few { d with fs := put p ⟨b, false⟩ d.fs } (i + 1) := by
  have h1 := tot_put hf.up p ⟨b, false⟩
  have h2 := put_length hf.up p (⟨b, false⟩ : Fil)
  have h3 : (⟨b, false⟩ : Fil).b.length = b.length := rfl
  have hl := hf.len
  have ht := hf.tot
  refine ⟨?_, put_up hf.up, ?_, ?_⟩
  · unfold writes
    rw [calm_begins h [p] (by simp [hp])]
    obtain ⟨mn, hmn⟩ : ∃ mn, (if (get p d.fs).isSome then d.fs.length else d.fs.length + 1) = mn := ⟨_, rfl⟩
    have hmn2 : mn ≤ 4096 := by rw [← hmn]; split <;> omega
    have hm := h.1
    simp only [hmn]
    rw [if_neg (by simp), if_neg (by omega), if_neg (by omega)]
  · show (put p (⟨b, false⟩ : Fil) d.fs).length ≤ i + 1
    rw [h2]; split <;> omega
  · show Dk.tot (put p (⟨b, false⟩ : Fil) d.fs) ≤ (i + 1) * 5000
    omega
/-- The names so far, and what each was written with last. -/
structure Named (w : World) (d : DS) (ns : List Path) (dv : List Value) : Prop where
  nd : ns.Nodup
  iff : ∀ p, p ∈ ns ↔ (get p d.fs).isSome = true
  len : d.fs.length = ns.length
  lv : dv.length = ns.length
  ok : ∀ p, p ∈ ns → okP p = true
  dat : ∀ (k : Nat) (u : Value) (p : Path), dv[k]? = some u → ns[k]? = some p → ∃ f a c, get p d.fs = some f ∧ u = .slice a f.b.length c ∧ Bytes w u f.b
theorem Named.start (w : World) (m : Nat) : Named w ⟨m, false, 0, []⟩ [] [] := ⟨List.nodup_nil, fun p => by simp [Dk.get], rfl, rfl, fun p hp => by simp at hp, fun k u p h => by simp at h⟩
theorem Named.more {w : World} {d : DS} {ns : List Path} {dv : List Value} (h : Named w d ns dv) (hu : Up d.fs) {p : Path} (hp : p ∉ ns) (hk : okP p = true) {a : Option Addr} {b : List UInt8} {c : Nat} (hb : Bytes w (.slice a b.length c) b) : Named w { d with fs := put p ⟨b, false⟩ d.fs } (ns ++ [p]) (dv ++ [.slice a b.length c]) := by
  have hg : get p d.fs = none := by
    cases hg : get p d.fs with
    | none => rfl
    | some f => exact absurd ((h.iff p).2 (by rw [hg]; rfl)) hp
  refine ⟨?_, fun q => ?_, ?_, by simp [h.lv], fun q hq => (List.mem_append.1 hq).elim (h.ok q) fun hq => by rw [List.mem_singleton.1 hq]; exact hk, fun k u q hk hq => ?_⟩
  · rw [List.nodup_append]
    exact ⟨h.nd, by simp, fun x hx y hy => by
      simp only [List.mem_singleton] at hy
      intro e; rw [e, hy] at hx; exact hp hx⟩
  · rw [List.mem_append, List.mem_singleton, h.iff]
    show _ ↔ (get q (put p ⟨b, false⟩ d.fs)).isSome = true
    rw [get_put hu]
    by_cases e : p = q
    · rw [if_pos e]; simp [e]
    · rw [if_neg e]
      exact ⟨fun hh => hh.elim id fun e2 => absurd e2.symm e, .inl⟩
  · show (put p (⟨b, false⟩ : Fil) d.fs).length = _
    rw [put_length hu, hg]; simp [h.len]
  · show ∃ f a c, get q (put p ⟨b, false⟩ d.fs) = some f ∧ _
    rw [get_put hu]
    by_cases hlt : k < ns.length
    · rw [List.getElem?_append_left (by rw [h.lv]; exact hlt)] at hk
      rw [List.getElem?_append_left hlt] at hq
      have hne : ¬ p = q := fun e => hp (e ▸ List.mem_of_getElem? hq)
      rw [if_neg hne]
      exact h.dat k u q hk hq
    · rw [List.getElem?_append_right (by omega)] at hq
      rw [List.getElem?_append_right (by rw [h.lv]; omega), h.lv] at hk
      have h0 : k - ns.length = 0 := by
        have := (List.getElem?_eq_some_iff.1 hq).1
        simp at this; omega
      rw [h0] at hk hq
      simp at hk hq
      subst hk hq
      rw [if_pos rfl]
      exact ⟨_, _, _, rfl, rfl, hb⟩
theorem Named.again {w : World} {d : DS} {ns : List Path} {dv : List Value} (h : Named w d ns dv) (hu : Up d.fs) {p : Path} {k : Nat} (hp : ns[k]? = some p) {a : Option Addr} {b : List UInt8} {c : Nat} (hb : Bytes w (.slice a b.length c) b) : Named w { d with fs := put p ⟨b, false⟩ d.fs } ns (dv.set k (.slice a b.length c)) := by
  have hin : (get p d.fs).isSome = true := (h.iff p).1 (List.mem_of_getElem? hp)
  refine ⟨h.nd, fun q => ?_, ?_, by simp [h.lv], h.ok, fun j u q hk hq => ?_⟩
  · rw [h.iff]
    show _ ↔ (get q (put p ⟨b, false⟩ d.fs)).isSome = true
    rw [get_put hu]
    by_cases e : p = q
    · rw [if_pos e, ← e, hin]; simp
    · rw [if_neg e]
  · show (put p (⟨b, false⟩ : Fil) d.fs).length = _
    rw [put_length hu, hin, if_pos rfl, h.len]
  · show ∃ f a c, get q (put p ⟨b, false⟩ d.fs) = some f ∧ _
    rw [get_put hu]
    rw [List.getElem?_set] at hk
    by_cases e : k = j
    · subst e
      rw [hp] at hq
      obtain rfl := Option.some.inj hq
      rw [if_pos rfl] at hk ⊢
      split at hk
      · cases hk; exact ⟨_, _, _, rfl, rfl, hb⟩
      · cases hk
    · rw [if_neg e] at hk
      have hne : ¬ p = q := fun e2 => by
        subst e2
        obtain ⟨h1, h2⟩ := List.getElem?_eq_some_iff.1 hp
        obtain ⟨h3, h4⟩ := List.getElem?_eq_some_iff.1 hq
        exact e ((List.getElem_inj h.nd).1 (h2.trans h4.symm))
      rw [if_neg hne]
      exact h.dat j u q hk hq
/-- Where a name stands among the first k, or -1. -/
def Where (ns : List Path) (p : Path) (k : Nat) (x : Int) : Prop := (x = -1 ∧ ∀ j, j < k → ns[j]? ≠ some p) ∨ ∃ j : Nat, j < k ∧ x = (j : Int) ∧ ns[j]? = some p
theorem Where.start (ns : List Path) (p : Path) : Where ns p 0 (-1) := .inl ⟨rfl, fun _ hj => absurd hj (Nat.not_lt_zero _)⟩
theorem Where.hit {ns : List Path} {p : Path} {k : Nat} (h : ns[k]? = some p) : Where ns p (k + 1) (k : Int) := .inr ⟨k, by omega, rfl, h⟩
theorem Where.miss {ns : List Path} {p q : Path} {k : Nat} {x : Int} (h : Where ns p k x) (hq : ns[k]? = some q) (hn : ¬ q = p) : Where ns p (k + 1) x := by
  rcases h with ⟨h1, h2⟩ | ⟨j, h1, h2, h3⟩
  · refine .inl ⟨h1, fun j hj => ?_⟩
    by_cases e : j = k
    · subst e; rw [hq]; exact fun e => hn (Option.some.inj e)
    · exact h2 j (by omega)
  · exact .inr ⟨j, by omega, h2, h3⟩
theorem Where.none {ns : List Path} {p : Path} (h : Where ns p ns.length (-1)) : p ∉ ns := fun hm => by
  obtain ⟨j, hj⟩ := List.mem_iff_getElem?.1 hm
  rcases h with ⟨-, h2⟩ | ⟨j, -, h2, -⟩
  · exact h2 j (List.getElem?_eq_some_iff.1 hj).1 hj
  · omega
/-- What is read of a calm disk. -/
theorem calm_read {d : DS} {n : Nat} (h : DS.calm d n) {p : Path} (hp : okP p = true) {f : Fil} (hf : get p d.fs = some f) : opens none d p [] = 0 ∧ readb none d p = f.b ∧ begins none d [p] = (0, none, d) := by
  have hb := calm_begins h [p] (by simp [hp])
  have ho : opens none d p [] = 0 := by unfold opens; rw [hb]; simp [hf]
  refine ⟨ho, ?_, hb⟩
  unfold readb
  rw [ho, if_pos rfl, hf]
theorem calm_lists {d : DS} {n : Nat} (h : DS.calm d n) (p : Path) : lists none d p = having p (paths d.fs) ∧ begins none d [] = (0, none, d) := by
  have hb := calm_begins h [] rfl
  refine ⟨?_, hb⟩
  unfold lists
  rw [hb, if_pos rfl]; rfl
theorem having_nil (ps : List Path) : having [] ps = ps := by unfold having; simp
theorem having_take {p : Path} {ps : List Path} {i : Nat} (hi : i < ps.length) : having p (ps.take (i + 1)) = having p (ps.take i) ++ (if p.isPrefixOf ps[i] then [ps[i]] else []) := by
  unfold having
  rw [List.take_add_one, List.filter_append, List.getElem?_eq_getElem hi]
  simp only [Option.toList_some, List.filter_cons, List.filter_nil]
/-- The one that comes next among those that begin so. -/
theorem having_get {p : Path} {ps : List Path} {i : Nat} (hi : i < ps.length) (hp : p.isPrefixOf ps[i] = true) : (having p ps)[(having p (ps.take i)).length]? = some ps[i] := by
  have e : having p ps = having p (ps.take i) ++ (ps[i] :: having p (ps.drop (i + 1))) := by
    have h1 : ps = ps.take i ++ (ps[i] :: ps.drop (i + 1)) := by rw [List.getElem_cons_drop, List.take_append_drop]
    conv => lhs; rw [h1]
    unfold having
    rw [List.filter_append, List.filter_cons, if_pos hp]
  rw [e, List.getElem?_append_right (Nat.le_refl _)]
  simp
theorem paths_up {α : Type} {l : L α} (h : Up l) {i : Nat} (hi : i + 1 < (paths l).length) : bytesBefore (paths l)[i] (paths l)[i + 1] = true := by
  have h2 : (paths l).Pairwise fun a b => bytesBefore a b = true := List.pairwise_map.2 h
  exact List.pairwise_iff_getElem.1 h2 i (i + 1) (by omega) hi (by omega)
theorem less_before : ∀ a b : Path, Op.bytesLess a b = bytesBefore a b
  | [], [] => rfl
  | [], _ :: _ => rfl
  | _ :: _, [] => rfl
  | a :: ra, b :: rb => by unfold Op.bytesLess bytesBefore; rw [less_before ra rb]
/-- Does it begin so? As the program asks. -/
theorem prefix_cases (q p : Path) : (p.isPrefixOf q = true ∧ p.length ≤ q.length ∧ (((bstr q).extract 0 p.length).toList == p) = true) ∨ (p.isPrefixOf q = false ∧ (q.length < p.length ∨ (p.length ≤ q.length ∧ (((bstr q).extract 0 p.length).toList == p) = false))) := by
  have h := Lib.hasPrefix_raw (bstr q) (bstr p)
  have eb : ∀ p : Path, (bstr p).data.toList = p := fun p => by unfold bstr; simp
  have el : (bstr p).toList = p := bstr_toList p
  rw [bstr_size, bstr_size, eb, eb, el] at h
  unfold Lib.hasPrefix at h
  cases hp : p.isPrefixOf q with
  | true =>
    rw [hp] at h
    simp only [Bool.and_eq_true, decide_eq_true_eq] at h
    exact .inl ⟨rfl, h⟩
  | false =>
    rw [hp] at h
    refine .inr ⟨rfl, ?_⟩
    by_cases hl : p.length ≤ q.length
    · refine .inr ⟨hl, ?_⟩
      rw [show decide (p.length ≤ q.length) = true from by simpa using hl, Bool.true_and] at h
      exact h
    · exact .inl (by omega)
end Go.Proofs.Ythkbbcdnmdjhdaa
