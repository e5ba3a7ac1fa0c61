/-
  Where a path stands in a row of rising ones; put and del told by places. No program in sight.
-/
import Derived.Test.YtnphkddhckcpmaaDkP
namespace Go.Proofs.Ytnphkddhckcpmaa.Dk
open Go
variable {α : Type}

/-- How many are ahead. -/
def pos (p : Path) : L α → Nat
  | [] => 0
  | e :: l => if bytesBefore e.1 p then pos p l + 1 else 0
/-- 1 where it is there, else 0. -/
def one (p : Path) (l : L α) : Nat := if (get p l).isSome then 1 else 0
theorem pos_le (p : Path) : ∀ l : L α, pos p l ≤ l.length
  | [] => Nat.le_refl _
  | e :: l => by
    unfold pos
    have := pos_le p l
    simp only [List.length_cons]
    split <;> omega
theorem pos_ahead (p : Path) : ∀ (l : L α) (i : Nat) (h : i < l.length), i < pos p l → bytesBefore l[i].1 p = true
  | [], _, h, _ => absurd h (Nat.not_lt_zero _)
  | e :: l, i, h, hi => by
    unfold pos at hi
    split at hi
    · rename_i hb
      cases i with
      | zero => exact hb
      | succ i => exact pos_ahead p l i (by simpa using h) (by omega)
    · omega
theorem pos_stop (p : Path) : ∀ (l : L α) (h : pos p l < l.length), bytesBefore (l[pos p l]).1 p = false
  | [], h => absurd h (Nat.not_lt_zero _)
  | e :: l, h => by
    by_cases hb : bytesBefore e.1 p = true
    · have e1 : pos p (e :: l) = pos p l + 1 := by simp [pos, hb]
      simp only [e1, List.getElem_cons_succ]
      exact pos_stop p l (by rw [e1] at h; simpa using h)
    · have e1 : pos p (e :: l) = 0 := by simp [pos, hb]
      simp only [e1, List.getElem_cons_zero]
      simpa using hb
/-- The first that is not ahead is the place. -/
theorem pos_eq (p : Path) : ∀ (l : L α) (i : Nat) (h : i ≤ l.length), (∀ j (hj : j < i), bytesBefore (l[j]'(by omega)).1 p = true) → (∀ h2 : i < l.length, bytesBefore l[i].1 p = false) → i = pos p l
  | [], i, h, _, _ => by simp at h; subst h; rfl
  | e :: l, i, h, ha, hs => by
    cases i with
    | zero =>
      have := hs (by simp)
      simp only [List.getElem_cons_zero] at this
      simp [pos, this]
    | succ i =>
      have h0 := ha 0 (by omega)
      simp only [List.getElem_cons_zero] at h0
      have := pos_eq p l i (by simpa using h) (fun j hj => by have := ha (j + 1) (by omega); simpa using this) (fun h2 => by have := hs (by simpa using h2); simpa using this)
      simp [pos, h0, ← this]
theorem rest_ne {p : Path} {e : Path × α} {l : L α} (hu : Up (e :: l)) (h : p = e.1 ∨ bytesBefore p e.1 = true) : ∀ x ∈ l, x.1 ≠ p := fun x hx e1 => by
  have h1 := hu.head x hx
  rw [e1] at h1
  rcases h with rfl | h
  · rw [WideAt.bytes_irrefl] at h1; cases h1
  · rw [before_not h] at h1; cases h1
theorem ins_first {p : Path} {x : α} {l : L α} (h : ∀ y ∈ l, bytesBefore p y.1 = true) : ins p x l = (p, x) :: l := by
  cases l with
  | nil => rfl
  | cons y l => unfold ins; rw [if_pos (h y List.mem_cons_self)]
theorem placed (p : Path) : ∀ {l : L α}, Up l → get p l = (match l[pos p l]? with | some e => if e.1 = p then some e.2 else none | none => none) ∧ (∀ x, put p x l = l.take (pos p l) ++ (p, x) :: l.drop (pos p l + one p l)) ∧ del p l = l.take (pos p l) ++ l.drop (pos p l + one p l)
  | [], _ => ⟨rfl, fun _ => rfl, rfl⟩
  | e :: l, hu => by
    obtain ⟨h1, h2, h3⟩ := placed p hu.tail
    by_cases hb : bytesBefore e.1 p = true
    · have hne : ¬ e.1 = p := before_ne hb
      have e1 : pos p (e :: l) = pos p l + 1 := by simp [pos, hb]
      have e2 : one p (e :: l) = one p l := by unfold one; rw [get_cons, if_neg hne]
      have e3 : pos p l + 1 + one p l = pos p l + one p l + 1 := by omega
      rw [e1, e2, e3]
      refine ⟨by rw [get_cons, if_neg hne, List.getElem?_cons_succ]; exact h1, fun x => ?_, ?_⟩
      · rw [List.take_succ_cons, List.drop_succ_cons, List.cons_append, ← h2 x]
        unfold put
        rw [del_cons, if_neg hne]
        show (if bytesBefore p e.1 = true then _ else _) = _
        rw [before_not hb]; rfl
      · rw [List.take_succ_cons, List.drop_succ_cons, List.cons_append, ← h3, del_cons, if_neg hne]
    · have e1 : pos p (e :: l) = 0 := by simp [pos, hb]
      rw [e1]
      simp only [List.take_zero, List.nil_append, List.getElem?_cons_zero, Nat.zero_add]
      by_cases he : e.1 = p
      · have hn := rest_ne hu (p := p) (.inl he.symm)
        have e2 : one p (e :: l) = 1 := by unfold one; rw [get_cons, if_pos he]; rfl
        rw [e2]
        refine ⟨by rw [get_cons, if_pos he, if_pos he], fun x => ?_, ?_⟩
        · unfold put
          rw [del_cons, if_pos he, del_none hn]
          exact ins_first fun y hy => by rw [← he]; exact hu.head y hy
        · rw [del_cons, if_pos he, del_none hn]; rfl
      · have hp : bytesBefore p e.1 = true := by
          rcases WideAt.bytes_total e.1 p he with h | h
          · exact absurd h hb
          · exact h
        have hn := rest_ne hu (p := p) (.inr hp)
        have hg : get p (e :: l) = none := by rw [get_cons, if_neg he, get_none hn]
        have e2 : one p (e :: l) = 0 := by unfold one; rw [hg]; rfl
        rw [e2]
        refine ⟨by rw [hg, if_neg he], fun x => ?_, ?_⟩
        · unfold put
          rw [del_cons, if_neg he, del_none hn]
          exact ins_first fun y hy => (List.mem_cons.1 hy).elim (fun e => by rw [e]; exact hp) fun hy => WideShapes.bytes_trans _ _ _ hp (hu.head y hy)
        · rw [del_cons, if_neg he, del_none hn]; rfl
/-- What stands at the place, where it is there. -/
theorem there_at {p : Path} {l : L α} (hu : Up l) {x : α} (h : get p l = some x) : ∃ hl : pos p l < l.length, l[pos p l] = (p, x) := by
  have h1 := (placed p hu).1
  rw [h] at h1
  cases hg : l[pos p l]? with
  | none => rw [hg] at h1; cases h1
  | some e =>
    rw [hg] at h1
    simp only at h1
    split at h1
    · rename_i he
      obtain ⟨hl, h2⟩ := List.getElem?_eq_some_iff.1 hg
      refine ⟨hl, ?_⟩
      rw [h2, Option.some.inj h1, ← he]
    · cases h1
theorem put_there {p : Path} {l : L α} (hu : Up l) {y : α} (h : get p l = some y) (x : α) : put p x l = l.set (pos p l) (p, x) := by
  obtain ⟨hl, -⟩ := there_at hu h
  have e1 : one p l = 1 := by unfold one; rw [h]; rfl
  rw [(placed p hu).2.1 x, e1, List.set_eq_take_append_cons_drop, if_pos hl]
theorem pos_mapv {β : Type} (f : α → β) (p : Path) : ∀ l : L α, pos p (mapv f l) = pos p l
  | [] => rfl
  | e :: l => by
    show (if bytesBefore e.1 p then pos p (mapv f l) + 1 else 0) = _
    rw [pos_mapv f p l]; rfl
theorem put_del {l : L α} (hu : Up l) {p q : Path} (h : p ≠ q) (x : α) : del p (put q x l) = put q x (del p l) := by
  refine get_ext (del_up (put_up hu) p) (put_up (del_up hu p)) fun r => ?_
  rw [get_del, get_put hu, get_put (del_up hu p), get_del]
  by_cases h1 : p = r
  · rw [if_pos h1, if_neg (fun e => h (h1.trans e.symm)), if_pos h1]
  · rw [if_neg h1, if_neg h1]
end Go.Proofs.Ytnphkddhckcpmaa.Dk
