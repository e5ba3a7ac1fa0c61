/-
  A list of rows that grows by append: the list's block is the call's own, the rows lie elsewhere. No statement about the program.
-/
import Derived.Test.YtdmdcgcmappliaaMxA
namespace Go.Proofs.Ytdmdcgcmappliaa
open Go.RowKit
set_option maxRecDepth 100000
set_option maxHeartbeats 1000000

/-- A row that has something does not lie in this block. -/
def OffB (r : Option Nat) (u : Value) (l : List UInt8) : Prop := l = [] ∨ u.ownBlock = none ∨ u.ownBlock ≠ r
def RowsOwn (w : World) (B : Nat) (v : Value) (ls : List (List UInt8)) : Prop :=
  ∃ vs : List Value, Own w B 34 v vs ∧ vs.length = ls.length ∧ ∀ (i : Nat) (u : Value) (l : List UInt8), vs[i]? = some u → ls[i]? = some l → Bytes w u l ∧ OffB v.ownBlock u l
theorem RowsOwn.nil (w : World) (B : Nat) : RowsOwn w B (.slice none 0 0) [] := ⟨[], Own.nil _ _ _, rfl, by simp⟩
theorem RowsOwn.ext {w w' : World} {B : Nat} {v : Value} {ls : List (List UInt8)} (h : RowsOwn w B v ls) (hx : Ext w w') : RowsOwn w' B v ls := by
  obtain ⟨vs, h1, h2, h3⟩ := h
  exact ⟨vs, h1.ext hx, h2, fun i u l hu hl => ⟨(h3 i u l hu hl).1.ext hx, (h3 i u l hu hl).2⟩⟩
theorem RowsOwn.brows {w : World} {B : Nat} {v : Value} {ls : List (List UInt8)} (h : RowsOwn w B v ls) : BRows w v ls := by
  obtain ⟨vs, h1, h2, h3⟩ := h
  exact ⟨vs, h1.cells, h2, fun i u l hu hl => (h3 i u l hu hl).1⟩
theorem RowsOwn.mono {w : World} {B B' : Nat} {v : Value} {ls : List (List UInt8)} (h : RowsOwn w B v ls) (hB : B' ≤ B) : RowsOwn w B' v ls := by
  obtain ⟨vs, h1, h2, h3⟩ := h
  exact ⟨vs, h1.mono hB, h2, h3⟩
theorem RowsOwn.form {w : World} {B : Nat} {v : Value} {ls : List (List UInt8)} (h : RowsOwn w B v ls) : ∃ a c, v = .slice a ls.length c := by
  obtain ⟨vs, h1, h2, h3⟩ := h
  obtain ⟨a, c, e⟩ := h1.slice
  exact ⟨a, c, by rw [e, h2]⟩
theorem RowsOwn.block {w : World} {B : Nat} {v : Value} {ls : List (List UInt8)} (h : RowsOwn w B v ls) : ∀ r, v.ownBlock = some r → r < w.heap.size := by
  obtain ⟨vs, h1, h2, h3⟩ := h
  intro r hr
  exact (World.ownsRow.lt h1 r hr).2

theorem Bytes.head {w : World} {u : Value} {l : List UInt8} (h : Bytes w u l) (h0 : l ≠ []) : ∃ b o n c, u = .slice (some ⟨b, o, none⟩) n c ∧ b < w.heap.size := by
  obtain ⟨a, cap, e, h1, h2, h3⟩ := h
  have hl : 0 < l.length := List.length_pos_iff.2 h0
  obtain ⟨ad, e1, e2⟩ := h3 0 _ (bvs_get hl)
  have hp := addr_plain e2
  have hlt := World.block_lt_of_cell? w _ e2
  subst e1
  rcases ad with ⟨b, o, f⟩
  have hf : f = none := by
    have := congrArg Addr.spot hp
    simpa [Addr.add] using this
  subst hf
  exact ⟨b, o, _, _, e, hlt⟩
/-- Bytes that do not lie in the row that grows. -/
theorem Bytes.grown {w w' : World} {u : Value} {l : List UInt8} {r : Option Nat} (h : Bytes w u l) (hg : w.grownBy w' r) (hof : OffB r u l) : Bytes w' u l := by
  obtain ⟨a, cap, e, h1, h2, h3⟩ := id h
  refine ⟨a, cap, e, h1, h2, fun j x hx => ?_⟩
  obtain ⟨ad, e1, e2⟩ := h3 j x hx
  refine ⟨ad, e1, ?_⟩
  have hb := World.block_lt_of_cell? w _ e2
  have hbk : (ad.add j).block = ad.block := by unfold Addr.add; split <;> rfl
  have hblk : w'.heap[(ad.add j).block]? = w.heap[(ad.add j).block]? := hg.block _ hb (fun e3 => by
    rcases hof with rfl | hn | hn
    · simp at hx
    · rw [e, e1] at hn; simp [Value.ownBlock] at hn
    · rw [e, e1] at hn
      exact hn (by show some ad.block = r; rw [← hbk, e3]))
  unfold World.cell? at e2 ⊢
  rw [hblk]
  exact e2
/-- One row more. -/
theorem RowsOwn.app {w w' : World} {B : Nat} {v v' u : Value} {vs : List Value} {ls : List (List UInt8)} {l : List UInt8} (hl : vs.length = ls.length)
    (hr : ∀ (i : Nat) (u : Value) (l : List UInt8), vs[i]? = some u → ls[i]? = some l → Bytes w u l ∧ OffB v.ownBlock u l) (hu : Bytes w u l) (ho : OffB v.ownBlock u l) (ha : AppOut w B 34 v (vs ++ [u]) v' w') : RowsOwn w' B v' (ls ++ [l]) := by
  obtain ⟨o1, o2, o3⟩ := ha
  refine ⟨vs ++ [u], o1, by simp [hl], fun i x k hx hk => ?_⟩
  have key : Bytes w x k ∧ OffB v.ownBlock x k := by
    by_cases hi : i < vs.length
    · rw [List.getElem?_append_left hi] at hx
      rw [List.getElem?_append_left (by omega)] at hk
      exact hr i x k hx hk
    · have hlt := (List.getElem?_eq_some_iff.1 hx).1
      simp at hlt
      obtain rfl : i = vs.length := by omega
      rw [List.getElem?_append_right (Nat.le_refl _), Nat.sub_self] at hx
      rw [hl, List.getElem?_append_right (Nat.le_refl _), Nat.sub_self] at hk
      simp at hx hk
      subst hx hk
      exact ⟨hu, ho⟩
  refine ⟨key.1.grown o2 key.2, ?_⟩
  rcases o3 with o3 | ⟨q, o3, hq⟩
  · rw [o3]; exact key.2
  · by_cases hk0 : k = []
    · exact .inl hk0
    · obtain ⟨b, o, n, c, rfl, hb⟩ := key.1.head hk0
      refine .inr (.inr ?_)
      rw [o3]
      intro e
      have : b = q := by simpa [Value.ownBlock] using e
      omega
/-- A row made behind the list. -/
theorem OffB.fresh {w : World} {B : Nat} {u : Value} {l : List UInt8} {r : Option Nat} (h : Own w B 5 u (bvs l)) (hr : ∀ q, r = some q → q < B) : OffB r u l := by
  cases e : u.ownBlock with
  | none => exact .inr (.inl e)
  | some b =>
    refine .inr (.inr fun h2 => ?_)
    have := h.block b e
    rw [e] at h2
    have := hr b h2.symm
    omega
end Go.Proofs.Ytdmdcgcmappliaa
