/-
  Things that lie in blocks of their own, side by side; what lies in new blocks since a base world; what a call does to one leaves the others. No statement about the program.
-/
import Derived.Test.YtnphkddhckcpmaaChg
namespace Go.Proofs.Ytnphkddhckcpmaa
open Go.RowKit

structure Thing where
  is : World → (Nat → Prop) → Prop
  lt : ∀ {w : World} {T : Nat → Prop}, is w T → ∀ b, T b → b < w.heap.size
  chg : ∀ {w w' : World} {T U : Nat → Prop}, is w T → Chg U w w' → (∀ b, T b → ¬ U b) → is w' T
/-- Nothing. -/
def emp : Thing := ⟨fun _ T => ∀ b, ¬ T b, fun h b hb => (h b hb).elim, fun h _ _ => h⟩
/-- Two, side by side. -/
def Thing.star (X Y : Thing) : Thing :=
  ⟨fun w T => ∃ A B, X.is w A ∧ Y.is w B ∧ (∀ b, A b → ¬ B b) ∧ ∀ b, T b ↔ A b ∨ B b,
   fun ⟨_, _, h1, h2, _, h4⟩ b hb => ((h4 b).1 hb).elim (X.lt h1 b) (Y.lt h2 b),
   fun ⟨A, B, h1, h2, h3, h4⟩ hc hn => ⟨A, B, X.chg h1 hc fun b hb => hn b ((h4 b).2 (.inl hb)), Y.chg h2 hc fun b hb => hn b ((h4 b).2 (.inr hb)), h3, h4⟩⟩
/-- Whoever has X has Y, too, in no more blocks. -/
def Thing.Ent (X Y : Thing) : Prop := ∀ w T, X.is w T → ∃ T', (∀ b, T' b → T b) ∧ Y.is w T'
section
variable {X Y Z X' Y' : Thing}
theorem Thing.Ent.refl (X : Thing) : X.Ent X := fun _ T h => ⟨T, fun _ h => h, h⟩
theorem Thing.Ent.trans (h : X.Ent Y) (k : Y.Ent Z) : X.Ent Z := fun w T hT => by
  obtain ⟨T1, h1, h2⟩ := h w T hT
  obtain ⟨T2, h3, h4⟩ := k w T1 h2
  exact ⟨T2, fun b hb => h1 b (h3 b hb), h4⟩
theorem Thing.Ent.star (h : X.Ent X') (k : Y.Ent Y') : (X.star Y).Ent (X'.star Y') := fun w T ⟨A, B, h1, h2, h3, h4⟩ => by
  obtain ⟨A', a1, a2⟩ := h w A h1
  obtain ⟨B', b1, b2⟩ := k w B h2
  exact ⟨fun b => A' b ∨ B' b, fun b hb => (h4 b).2 (hb.elim (fun h => .inl (a1 b h)) fun h => .inr (b1 b h)), A', B', a2, b2, fun b ha hb => h3 b (a1 b ha) (b1 b hb), fun _ => Iff.rfl⟩
theorem Thing.Ent.left : (X.star Y).Ent X := fun _ _ ⟨A, _, h1, _, _, h4⟩ => ⟨A, fun b hb => (h4 b).2 (.inl hb), h1⟩
theorem Thing.Ent.right : (X.star Y).Ent Y := fun _ _ ⟨_, B, _, h2, _, h4⟩ => ⟨B, fun b hb => (h4 b).2 (.inr hb), h2⟩
theorem Thing.Ent.comm : (X.star Y).Ent (Y.star X) := fun _ _ ⟨A, B, h1, h2, h3, h4⟩ => ⟨_, fun _ h => h, B, A, h2, h1, fun b hb ha => h3 b ha hb, fun b => (h4 b).trans Or.comm⟩
theorem Thing.Ent.assoc : ((X.star Y).star Z).Ent (X.star (Y.star Z)) := fun _ _ ⟨_, C, ⟨A, B, h1, h2, h3, h4⟩, h5, h6, h7⟩ =>
  ⟨_, fun _ h => h, A, fun b => B b ∨ C b, h1, ⟨B, C, h2, h5, fun b hb hc => h6 b ((h4 b).2 (.inr hb)) hc, fun _ => Iff.rfl⟩, fun b ha hb => hb.elim (h3 b ha) (h6 b ((h4 b).2 (.inl ha))), fun b => (h7 b).trans ((or_congr (h4 b) Iff.rfl).trans or_assoc)⟩
theorem Thing.Ent.assoc' : (X.star (Y.star Z)).Ent ((X.star Y).star Z) :=
  Thing.Ent.comm.trans ((Thing.Ent.star .comm (.refl X)).trans (Thing.Ent.assoc.trans (Thing.Ent.comm.trans (Thing.Ent.star .comm (.refl _)))))
/-- The first two change their places. -/
theorem Thing.Ent.swap : (X.star (Y.star Z)).Ent (Y.star (X.star Z)) := Thing.Ent.assoc'.trans ((Thing.Ent.star .comm (.refl _)).trans .assoc)
theorem Thing.Ent.emp : X.Ent (X.star emp) := fun _ T h => ⟨T, fun _ h => h, T, fun _ => False, h, fun _ h => h, fun _ _ h => h, fun _ => (or_false _).symm ▸ Iff.rfl⟩
end
/-- X lies in blocks that are new since w0; nothing that was there then has turned. -/
def Lab (w0 w : World) (X : Thing) : Prop := ∃ T, X.is w T ∧ (∀ b, T b → w0.heap.size ≤ b) ∧ Ext w0 w
/-- What a call made of what lay in T. -/
def Made (X : Thing) (T : Nat → Prop) (w w' : World) : Prop := Chg T w w' ∧ ∃ T', (∀ b, T' b → Grow T w w' b) ∧ X.is w' T'
section
variable {w0 w w' : World} {X Y Z X' : Thing}
theorem Lab.toExt (h : Lab w0 w X) : Ext w0 w := by obtain ⟨T, _, _, h⟩ := h; exact h
theorem Lab.ent (h : Lab w0 w X) (k : X.Ent Y) : Lab w0 w Y := by
  obtain ⟨T, h1, h2, h3⟩ := h
  obtain ⟨T', h4, h5⟩ := k w T h1
  exact ⟨T', h5, fun b hb => h2 b (h4 b hb), h3⟩
theorem Lab.ext (h : Lab w0 w X) (k : Ext w w') : Lab w0 w' X := by
  obtain ⟨T, h1, h2, h3⟩ := h
  exact ⟨T, X.chg h1 (Chg.of_ext k (fun _ => False)) (fun _ _ h => h), h2, Ext.trans h3 k⟩
theorem Lab.start (w : World) : Lab w w emp := ⟨fun _ => False, fun _ h => h, fun _ h => h.elim, Ext.refl w⟩
theorem Lab.drew (h : Lab w0 w X) : Lab w0 w.drew X := h.ext (Ext.of_drawn w 1)
theorem Lab.left (h : Lab w0 w (X.star Y)) : Lab w0 w X := h.ent .left
theorem Lab.right (h : Lab w0 w (X.star Y)) : Lab w0 w Y := h.ent .right
theorem Lab.comm (h : Lab w0 w (X.star Y)) : Lab w0 w (Y.star X) := h.ent .comm
theorem Lab.swap (h : Lab w0 w (X.star (Y.star Z))) : Lab w0 w (Y.star (X.star Z)) := h.ent .swap
theorem Lab.assoc (h : Lab w0 w ((X.star Y).star Z)) : Lab w0 w (X.star (Y.star Z)) := h.ent .assoc
theorem Lab.assoc' (h : Lab w0 w (X.star (Y.star Z))) : Lab w0 w ((X.star Y).star Z) := h.ent .assoc'
theorem Lab.emp (h : Lab w0 w X) : Lab w0 w (X.star emp) := h.ent .emp
theorem Lab.third {R : Thing} (h : Lab w0 w (X.star (Y.star (Z.star R)))) : Lab w0 w (Z.star (X.star (Y.star R))) := (h.ent (.star (.refl _) .swap)).swap
theorem Lab.third' {R : Thing} (h : Lab w0 w (Z.star (X.star (Y.star R)))) : Lab w0 w (X.star (Y.star (Z.star R))) := h.swap.ent (.star (.refl _) .swap)
theorem Lab.fourth {V R : Thing} (h : Lab w0 w (X.star (Y.star (Z.star (V.star R))))) : Lab w0 w (V.star (X.star (Y.star (Z.star R)))) := (h.ent (.star (.refl _) (.star (.refl _) .swap))).third
theorem Lab.fourth' {V R : Thing} (h : Lab w0 w (V.star (X.star (Y.star (Z.star R))))) : Lab w0 w (X.star (Y.star (Z.star (V.star R)))) := h.third'.ent (.star (.refl _) (.star (.refl _) .swap))
theorem Lab.flip {V R : Thing} (h : Lab w0 w (X.star (Y.star (Z.star (V.star R))))) : Lab w0 w (Z.star (V.star (X.star (Y.star R)))) := (h.assoc'.ent (.star (.refl _) .assoc')).swap.assoc.ent (.star (.refl _) (.star (.refl _) .assoc))
theorem Lab.fifth' {V U R : Thing} (h : Lab w0 w (X.star (Y.star (Z.star (V.star (U.star R)))))) : Lab w0 w (Y.star (Z.star (V.star (U.star (X.star R))))) := h.swap.ent (.star (.refl _) (.trans .swap (.star (.refl _) (.trans .swap (.star (.refl _) .swap)))))
theorem Lab.in_ (h : Lab w0 w X) (k : X.Ent (Y.star Z)) : Lab w0 w (Y.star Z) := h.ent k
/-- What was made of the first leaves the other. -/
theorem Lab.made (h : Lab w0 w (X.star Y)) (k : ∀ T, X.is w T → Made X' T w w') : Lab w0 w' (X'.star Y) := by
  obtain ⟨T, ⟨A, B, h1, h2, h3, h4⟩, h5, h6⟩ := h
  obtain ⟨hc, T', k1, k2⟩ := k A h1
  have lt := Y.lt h2
  refine ⟨fun b => T' b ∨ B b, ⟨T', B, k2, Y.chg h2 hc (fun b hb ha => h3 b ha hb), fun b hb hB => ?_, fun _ => Iff.rfl⟩, fun b hb => ?_, ?_⟩
  · rcases k1 b hb with x | x
    · exact h3 b x hB
    · have := lt b hB; omega
  · rcases hb with hb | hb
    · rcases k1 b hb with x | x
      · exact h5 b ((h4 b).2 (.inl x))
      · have := h6.size; omega
    · exact h5 b ((h4 b).2 (.inr hb))
  · exact ⟨hc.os.trans h6.os, hc.tape.trans h6.tape, hc.output.trans h6.output, Nat.le_trans h6.size hc.size, fun b hb => (hc.block b (Nat.lt_of_lt_of_le hb h6.size) (fun ha => by have := h5 b ((h4 b).2 (.inl ha)); omega)).trans (h6.block b hb)⟩
theorem Lab.call {P : Program} {f : FuncId} {args : Array Value} {Q : Thing → Ending → Prop} (h : Lab w0 w (X.star Y)) (k : ∀ T, X.is w T → Calls P f args w fun e w' => ∃ X', Q X' e ∧ Made X' T w w') :
    Calls P f args w fun e w' => ∃ X', Q X' e ∧ Lab w0 w' (X'.star Y) := by
  obtain ⟨T, ⟨A, B, h1, h2, h3, h4⟩, h5, h6⟩ := h
  refine (k A h1).mono fun e w' ⟨X', q, hm⟩ => ⟨X', q, ?_⟩
  have lt := Y.lt h2
  obtain ⟨hc, T', k1, k2⟩ := hm
  refine ⟨fun b => T' b ∨ B b, ⟨T', B, k2, Y.chg h2 hc (fun b hb ha => h3 b ha hb), fun b hb hB => ?_, fun _ => Iff.rfl⟩, fun b hb => ?_, ?_⟩
  · rcases k1 b hb with x | x
    · exact h3 b x hB
    · have := lt b hB; omega
  · rcases hb with hb | hb
    · rcases k1 b hb with x | x
      · exact h5 b ((h4 b).2 (.inl x))
      · have := h6.size; omega
    · exact h5 b ((h4 b).2 (.inr hb))
  · exact ⟨hc.os.trans h6.os, hc.tape.trans h6.tape, hc.output.trans h6.output, Nat.le_trans h6.size hc.size, fun b hb => (hc.block b (Nat.lt_of_lt_of_le hb h6.size) (fun ha => by have := h5 b ((h4 b).2 (.inl ha)); omega)).trans (h6.block b hb)⟩
/-- Something that was made anew. -/
theorem Lab.new (h : Lab w0 w Y) (hx : Ext w w') {T : Nat → Prop} (hX : X.is w' T) (hT : ∀ b, T b → w.heap.size ≤ b) : Lab w0 w' (X.star Y) := by
  obtain ⟨B, h2, h5, h6⟩ := h
  have lt := Y.lt h2
  exact ⟨fun b => T b ∨ B b, ⟨T, B, hX, Y.chg h2 (Chg.of_ext hx (fun _ => False)) (fun _ _ h => h), fun b hb hB => by have := lt b hB; have := hT b hb; omega, fun _ => Iff.rfl⟩, fun b hb => hb.elim (fun hb => Nat.le_trans h6.size (hT b hb)) (h5 b), Ext.trans h6 hx⟩
theorem Lab.get (h : Lab w0 w X) : ∃ T, X.is w T := by obtain ⟨T, h, _⟩ := h; exact ⟨T, h⟩
theorem Made.of_ext {T : Nat → Prop} (hX : X.is w T) (h : Ext w w') : Made X T w w' := ⟨Chg.of_ext h T, T, fun _ hb => .inl hb, X.chg hX (Chg.of_ext h (fun _ => False)) (fun _ _ h => h)⟩
end
/-- A slice that owns its row. -/
def ownT (e : TypeId) (v : Value) (cs : List Value) : Thing :=
  ⟨fun w T => Own w 0 e v cs ∧ ∀ b, T b ↔ v.ownBlock = some b, fun h b hb => Own.lt h.1 ((h.2 b).1 hb), fun h hc hn => ⟨Own.chg h.1 hc fun b hb => hn b ((h.2 b).2 hb), h.2⟩⟩
theorem ownT.own {w0 w : World} {e : TypeId} {v : Value} {cs : List Value} (h : Lab w0 w (ownT e v cs)) : Own w 0 e v cs := by obtain ⟨T, h, _⟩ := h; exact h.1
/-- A row in a block. -/
def rowT (b : Nat) (e : TypeId) (cs : Array Value) : Thing :=
  ⟨fun w T => Row w b e cs ∧ ∀ k, T k ↔ b = k, fun h k hk => by rw [← (h.2 k).1 hk]; exact h.1.lt, fun h hc hn => ⟨h.1.chg hc (hn b ((h.2 b).2 rfl)), h.2⟩⟩
theorem rowT.row {w0 w : World} {b : Nat} {e : TypeId} {cs : Array Value} (h : Lab w0 w (rowT b e cs)) : Row w b e cs := by obtain ⟨T, h, _⟩ := h; exact h.1
/-- One cell of a row written. -/
theorem Lab.set {w0 w : World} {Z : Thing} {e : TypeId} {g n c : Nat} {cs : List Value} (h : Lab w0 w ((ownT e (.slice (some ⟨g, 0, none⟩) n c) cs).star Z)) (i : Nat) (u : Value) : Lab w0 (w.setCell ⟨g, i, none⟩ u) ((ownT e (.slice (some ⟨g, 0, none⟩) n c) (cs.set i u)).star Z) :=
  h.made fun T hT => by
    have hg : T g := (hT.2 g).2 rfl
    have hO : Own w 0 e (.slice (some ⟨g, 0, none⟩) n c) cs := hT.1
    exact ⟨(Chg.refl T w).at g i (.inl hg) u, T, fun b hb => .inl hb, hO.set i u, hT.2⟩
/-- One appended. -/
theorem wp_lapp1 {P : Program} {W w0 : World} {Z : Thing} {o : Oper} {a : Act} {Q : Exit → Act → World → Prop} {K : Act → World → Prop} (s x : Operand) (t e : TypeId) (z : Value) (bytes : Nat) (ho : o.op = .call { callee := .builtin .append, args := #[s, x], argTypes := #[t, t] }) (ht : P.underlying t = some (.slice e))
    (hi : (P.info? e).map (fun i => (i.zero, i.size, i.bytes)) = some (some z, 1, bytes)) (hz : z.cells = #[z]) (hby : bytes ≤ 64)
    {xa : Option Addr} {n xc q : Nat} {u : Value} {cs : List Value} (hs : a.eval s = .slice xa n xc) (hx : a.eval x = .slice (some ⟨q, 0, none⟩) 1 1) (hq : q = W.heap.size) (hn : n = cs.length)
    (hL : Lab w0 W ((ownT e (.slice xa n xc) cs).star Z)) (hu : u.oneCell' = true) (hlen : cs.length ≤ 100000)
    (hK : ∀ ad c w', Lab w0 w' ((ownT e (.slice ad (n + 1) c) (cs ++ [u])).star Z) → K (a.put o.dst (.slice ad (n + 1) c)) w') : Oper.wp P o a (W.alloc (.cells #[u] e)) K Q := by
  subst hq
  subst hn
  have x6 : Ext W (W.alloc (.cells #[u] e)) := (Ext.refl W).alloc (Nat.le_refl _) _
  have hL2 := hL.ext x6
  have hsrc : Cells (W.alloc (.cells #[u] e)) (.slice (some ⟨W.heap.size, 0, none⟩) 1 1) [u] := (Own.new W 0 e #[u] (Nat.zero_le _) (by unfold maxLen; simp)).cells
  have hO := ownT.own hL2.left
  have hb : (2 * (cs.length + [u].length) + 768) * bytes ≤ 281474976710656 := by
    have : (2 * (cs.length + 1) + 768) * bytes ≤ 200770 * 64 := Nat.mul_le_mul (by omega) hby
    simp only [List.length_singleton]; omega
  refine wp_appx s x t t e z bytes ho ht hi hz hs hO hx (Cells.src ht hsrc (by simpa using hu)) (by simp only [List.length_singleton, maxLen]; omega) hb (Nat.zero_le _) (cs.length + 1) (by simp) fun ad c w' ⟨h1, h2, h3⟩ => hK ad c w' (hL2.made fun T hT => ⟨(Chg.refl T _).grown h2 fun k hk => .inl ((hT.2 k).2 hk), fun b => (Value.slice ad (cs.length + 1) c).ownBlock = some b, fun b hb => ?_, by
    have e1 : (cs ++ [u]).length = cs.length + 1 := by simp
    exact h1, fun _ => Iff.rfl⟩)
  rcases h3 with h3 | ⟨k, h3, h4⟩
  · rw [h3] at hb; exact .inl ((hT.2 b).2 hb)
  · rw [h3] at hb; cases hb; exact .inr ⟨h4, h1.lt h3⟩
theorem ownT.nil {w0 w : World} {Z : Thing} (e : TypeId) (h : Lab w0 w Z) : Lab w0 w ((ownT e (.slice none 0 0) []).star Z) :=
  h.new (Ext.refl w) (X := ownT e (.slice none 0 0) []) (T := fun _ => False) ⟨Own.nil _ _ _, fun b => ⟨False.elim, fun h => by cases h⟩⟩ fun _ h => h.elim
end Go.Proofs.Ytnphkddhckcpmaa
