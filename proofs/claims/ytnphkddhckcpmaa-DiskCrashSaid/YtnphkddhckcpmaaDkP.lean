/-
  Disks as lists of files by rising paths: what is read, put, taken away; and what a disk answers. No program in sight.
-/
import Derived.WideAt
import Derived.WideShapes
import Derived.Maps.Views
import Derived.MapViews
namespace Go.Proofs.Ytnphkddhckcpmaa.Dk
open Go

abbrev Path := List UInt8
/-- What stands at paths, the paths rising. -/
abbrev L (α : Type) := List (Path × α)
section
variable {α β : Type}
def get (p : Path) (l : L α) : Option α := (l.find? fun e => e.1 == p).map (·.2)
def del (p : Path) (l : L α) : L α := l.filter fun e => !(e.1 == p)
def ins (p : Path) (x : α) : L α → L α
  | [] => [(p, x)]
  | y :: r => if bytesBefore p y.1 then (p, x) :: y :: r else y :: ins p x r
def put (p : Path) (x : α) (l : L α) : L α := ins p x (del p l)
def Up (l : L α) : Prop := l.Pairwise fun a b => bytesBefore a.1 b.1 = true
def mapv (f : α → β) (l : L α) : L β := l.map fun e => (e.1, f e.2)

theorem before_ne {a b : Path} (h : bytesBefore a b = true) : a ≠ b := fun e => by
  rw [e, WideAt.bytes_irrefl] at h; cases h
theorem before_not {a b : Path} (h : bytesBefore a b = true) : bytesBefore b a = false := by
  cases e : bytesBefore b a
  · rfl
  · have := WideShapes.bytes_trans _ _ _ h e
    rw [WideAt.bytes_irrefl] at this; cases this

theorem get_none {p : Path} {l : L α} (h : ∀ e ∈ l, e.1 ≠ p) : get p l = none := by
  unfold get
  rw [List.find?_eq_none.2 (fun e he => by simpa using h e he)]; rfl
theorem get_cons (p : Path) (e : Path × α) (l : L α) : get p (e :: l) = if e.1 = p then some e.2 else get p l := by
  unfold get
  rw [List.find?_cons]
  by_cases h : e.1 = p
  · simp [h]
  · have h2 : (e.1 == p) = false := by simpa using h
    rw [if_neg h, h2]
theorem get_mem {p : Path} {l : L α} {x : α} (h : get p l = some x) : (p, x) ∈ l := by
  induction l with
  | nil => cases h
  | cons e l ih =>
    rw [get_cons] at h
    split at h
    · rename_i he
      cases h
      rw [← he]; exact List.mem_cons_self
    · exact List.mem_cons_of_mem _ (ih h)
theorem Up.nil : Up ([] : L α) := List.Pairwise.nil
theorem Up.tail {e : Path × α} {l : L α} (h : Up (e :: l)) : Up l := (List.pairwise_cons.1 h).2
theorem Up.head {e : Path × α} {l : L α} (h : Up (e :: l)) : ∀ x ∈ l, bytesBefore e.1 x.1 = true := (List.pairwise_cons.1 h).1
theorem get_of_mem {l : L α} (hu : Up l) {p : Path} {x : α} (h : (p, x) ∈ l) : get p l = some x := by
  induction l with
  | nil => cases h
  | cons e l ih =>
    rw [get_cons]
    rcases List.mem_cons.1 h with rfl | h
    · rw [if_pos rfl]
    · rw [if_neg (before_ne (hu.head _ h)), ih hu.tail h]
theorem mem_iff {l : L α} (hu : Up l) {p : Path} {x : α} : (p, x) ∈ l ↔ get p l = some x := ⟨get_of_mem hu, get_mem⟩
/-- Two at one path are one. -/
theorem Up.one {l : L α} (hu : Up l) {e e' : Path × α} (h : e ∈ l) (h' : e' ∈ l) (hp : e.1 = e'.1) : e = e' := by
  have h1 := get_of_mem hu (p := e.1) (x := e.2) h
  have h2 := get_of_mem hu (p := e'.1) (x := e'.2) h'
  rw [← hp, h1] at h2
  exact Prod.ext hp (Option.some.inj h2)

theorem del_up {l : L α} (h : Up l) (p : Path) : Up (del p l) := List.Pairwise.sublist List.filter_sublist h
theorem mem_del {l : L α} {p : Path} {e : Path × α} : e ∈ del p l ↔ e ∈ l ∧ e.1 ≠ p := by
  unfold del; simp
theorem del_cons (p : Path) (e : Path × α) (l : L α) : del p (e :: l) = if e.1 = p then del p l else e :: del p l := by
  unfold del
  rw [List.filter_cons]
  by_cases h : e.1 = p <;> simp [h]
theorem del_none {l : L α} {p : Path} (h : ∀ e ∈ l, e.1 ≠ p) : del p l = l := by
  unfold del
  exact List.filter_eq_self.2 fun e he => by simpa using h e he
theorem mem_ins {p : Path} {x : α} {e : Path × α} : ∀ {l : L α}, e ∈ ins p x l ↔ e = (p, x) ∨ e ∈ l
  | [] => by simp [ins]
  | y :: l => by
    unfold ins
    split
    · simp
    · rw [List.mem_cons, mem_ins, List.mem_cons]
      constructor
      · rintro (h | h | h)
        · exact .inr (.inl h)
        · exact .inl h
        · exact .inr (.inr h)
      · rintro (h | h | h)
        · exact .inr (.inl h)
        · exact .inl h
        · exact .inr (.inr h)
theorem ins_up {p : Path} {x : α} : ∀ {l : L α}, Up l → (∀ e ∈ l, e.1 ≠ p) → Up (ins p x l)
  | [], _, _ => by unfold ins; exact List.pairwise_singleton _ _
  | y :: l, h, hn => by
    unfold ins
    split
    · rename_i hb
      refine List.pairwise_cons.2 ⟨fun e he => ?_, h⟩
      rcases List.mem_cons.1 he with rfl | he
      · exact hb
      · exact WideShapes.bytes_trans _ _ _ hb (h.head _ he)
    · rename_i hb
      refine List.pairwise_cons.2 ⟨fun e he => ?_, ins_up h.tail fun e he => hn e (List.mem_cons_of_mem _ he)⟩
      rcases mem_ins.1 he with rfl | he
      · rcases WideAt.bytes_total y.1 p (hn y List.mem_cons_self) with h1 | h1
        · exact h1
        · exact absurd h1 hb
      · exact h.head _ he
theorem put_up {p : Path} {x : α} {l : L α} (h : Up l) : Up (put p x l) := ins_up (del_up h p) fun _ he => (mem_del.1 he).2
theorem mem_put {p : Path} {x : α} {l : L α} {e : Path × α} : e ∈ put p x l ↔ e = (p, x) ∨ (e ∈ l ∧ e.1 ≠ p) := by
  unfold put; rw [mem_ins, mem_del]
theorem get_ext {l k : L α} (hl : Up l) (hk : Up k) (h : ∀ p, get p l = get p k) : l = k := by
  induction l generalizing k with
  | nil =>
    cases k with
    | nil => rfl
    | cons e k =>
      have := h e.1
      rw [get_cons, if_pos rfl] at this
      cases this
  | cons e l ih =>
    cases k with
    | nil =>
      have := h e.1
      rw [get_cons, if_pos rfl] at this
      cases this
    | cons e' k =>
      have hp : e.1 = e'.1 := by
        by_cases hp : e.1 = e'.1
        · exact hp
        · exfalso
          have h1 := h e.1
          rw [get_cons, if_pos rfl, get_cons, if_neg (fun x => hp x.symm)] at h1
          have h2 := h e'.1
          rw [get_cons, if_neg hp, get_cons, if_pos rfl] at h2
          have m1 := get_mem h1.symm
          have m2 := get_mem h2
          have b1 := hk.head _ m1
          have b2 := hl.head _ m2
          rw [before_not b1] at b2
          cases b2
      have h1 := h e.1
      rw [get_cons, if_pos rfl, get_cons, if_pos hp.symm] at h1
      have he : e = e' := Prod.ext hp (Option.some.inj h1)
      subst he
      rw [ih hl.tail hk.tail fun p => ?_]
      by_cases hpe : e.1 = p
      · have n1 : ∀ x ∈ l, x.1 ≠ p := fun x hx => by rw [← hpe]; exact (before_ne (hl.head _ hx)).symm
        have n2 : ∀ x ∈ k, x.1 ≠ p := fun x hx => by rw [← hpe]; exact (before_ne (hk.head _ hx)).symm
        rw [get_none n1, get_none n2]
      · have := h p
        rw [get_cons, get_cons, if_neg hpe, if_neg hpe] at this
        exact this
theorem get_del {l : L α} (p q : Path) : get q (del p l) = if p = q then none else get q l := by
  induction l with
  | nil => simp [del, get]
  | cons e l ih =>
    rw [del_cons]
    by_cases h : e.1 = p
    · rw [if_pos h, ih, get_cons]
      by_cases h2 : p = q
      · rw [if_pos h2, if_pos h2]
      · rw [if_neg h2, if_neg h2, if_neg (fun x => h2 (h.symm.trans x))]
    · rw [if_neg h, get_cons, ih, get_cons]
      by_cases h2 : p = q
      · rw [if_pos h2, if_neg (fun x => h (x.trans h2.symm)), if_pos h2]
      · rw [if_neg h2, if_neg h2]
theorem get_put {l : L α} (hu : Up l) (p q : Path) (x : α) : get q (put p x l) = if p = q then some x else get q l := by
  by_cases h : p = q
  · subst h
    rw [if_pos rfl, get_of_mem (put_up hu) (mem_put.2 (.inl rfl))]
  · rw [if_neg h]
    cases hg : get q l with
    | some y => exact get_of_mem (put_up hu) (mem_put.2 (.inr ⟨get_mem hg, fun e => h e.symm⟩))
    | none =>
      refine get_none fun e he => ?_
      rcases mem_put.1 he with rfl | ⟨he, -⟩
      · exact h
      · intro e1
        have := get_of_mem hu (p := e.1) (x := e.2) he
        rw [e1, hg] at this
        cases this
/-! ### seen through a function -/
theorem get_mapv (f : α → β) (p : Path) (l : L α) : get p (mapv f l) = (get p l).map f := by
  induction l with
  | nil => rfl
  | cons e l ih =>
    show get p ((e.1, f e.2) :: mapv f l) = _
    rw [get_cons, get_cons, ih]
    by_cases h : e.1 = p
    · rw [if_pos h, if_pos h]; rfl
    · rw [if_neg h, if_neg h]
theorem del_mapv (f : α → β) (p : Path) (l : L α) : del p (mapv f l) = mapv f (del p l) := by
  induction l with
  | nil => rfl
  | cons e l ih =>
    show del p ((e.1, f e.2) :: mapv f l) = _
    rw [del_cons, del_cons, ih]
    by_cases h : e.1 = p
    · rw [if_pos h, if_pos h]
    · rw [if_neg h, if_neg h]; rfl
theorem ins_mapv (f : α → β) (p : Path) (x : α) : ∀ l : L α, ins p (f x) (mapv f l) = mapv f (ins p x l)
  | [] => rfl
  | e :: l => by
    show ins p (f x) ((e.1, f e.2) :: mapv f l) = _
    unfold ins
    split
    · rfl
    · rw [ins_mapv f p x l]; rfl
theorem put_mapv (f : α → β) (p : Path) (x : α) (l : L α) : put p (f x) (mapv f l) = mapv f (put p x l) := by
  unfold put; rw [del_mapv, ins_mapv]
theorem Up.mapv {l : L α} (h : Up l) (f : α → β) : Up (mapv f l) := by
  unfold Dk.mapv
  exact List.pairwise_map.2 h
theorem Up.of_mapv {l : L α} {f : α → β} (h : Up (Dk.mapv f l)) : Up l := List.pairwise_map.1 h
theorem mapv_length (f : α → β) (l : L α) : (mapv f l).length = l.length := List.length_map _
theorem mem_mapv {f : α → β} {l : L α} {e : Path × α} (h : e ∈ l) : (e.1, f e.2) ∈ mapv f l := List.mem_map.2 ⟨e, h, rfl⟩
theorem ins_length (p : Path) (x : α) : ∀ l : L α, (ins p x l).length = l.length + 1
  | [] => rfl
  | e :: l => by
    unfold ins
    split
    · rfl
    · rw [List.length_cons, ins_length p x l, List.length_cons]
theorem del_length {l : L α} (hu : Up l) (p : Path) : (del p l).length + (if (get p l).isSome then 1 else 0) = l.length := by
  induction l with
  | nil => rfl
  | cons e l ih =>
    have := ih hu.tail
    rw [del_cons, get_cons]
    by_cases h : e.1 = p
    · have hn : ∀ x ∈ l, x.1 ≠ p := fun x hx => by rw [← h]; exact (before_ne (hu.head _ hx)).symm
      rw [if_pos h, if_pos h, del_none hn]; simp
    · rw [if_neg h, if_neg h]; simp only [List.length_cons]; omega
theorem put_length {l : L α} (hu : Up l) (p : Path) (x : α) : (put p x l).length = if (get p l).isSome then l.length else l.length + 1 := by
  unfold put
  rw [ins_length]
  have := del_length hu p
  split at this <;> rename_i h
  · rw [if_pos h]; omega
  · rw [if_neg h]; omega
end

/-! ### as a map's datum -/
def Dm (l : L Nat) : DataW Unit := .map (l.map fun e => (.string e.1, .lit (.int .i64 e.2)))
theorem same_string (a b : Path) : (Lit.string a).sameKey (.string b) = (a == b) := rfl
theorem Dm_has (l : L Nat) (p : Path) : Maps.has (Dm l) (.string p) = (get p l).isSome := by
  show List.any _ _ = _
  rw [List.any_map]
  induction l with
  | nil => rfl
  | cons e l ih =>
    rw [List.any_cons, get_cons, ih]
    by_cases h : e.1 = p
    · simp [h, same_string]
    · simp [h, same_string]
theorem atKey_map (es : List (Lit × DataW Unit)) (k : Lit) (z : DataW Unit) : (DataW.map es).atKey k z = ((es.find? fun x => x.1.sameKey k).map (·.2)).getD z := by
  simp only [DataW.atKey]
  cases h : es.find? fun x => x.1.sameKey k <;> simp
theorem Dm_at (l : L Nat) (p : Path) (z : DataW Unit) : (Dm l).atKey (.string p) z = match get p l with | some q => .lit (.int .i64 q) | none => z := by
  unfold Dm
  rw [atKey_map]
  induction l with
  | nil => rfl
  | cons e l ih =>
    rw [List.map_cons, List.find?_cons, get_cons]
    by_cases h : e.1 = p
    · have h2 : ((Lit.string e.1).sameKey (.string p)) = true := by rw [same_string]; simpa using h
      rw [if_pos h, h2]; rfl
    · have h2 : ((Lit.string e.1).sameKey (.string p)) = false := by rw [same_string]; simpa using h
      rw [if_neg h, h2]
      exact ih
theorem filter_string (l : L Nat) (p : Path) : (l.map fun e => ((Lit.string e.1, DataW.lit (H := Unit) (.int .i64 e.2)))).filter (fun x => !x.1.sameKey (.string p)) = (del p l).map fun e => (.string e.1, .lit (.int .i64 e.2)) := by
  induction l with
  | nil => rfl
  | cons e l ih =>
    rw [List.map_cons, List.filter_cons, del_cons, ih]
    by_cases h : e.1 = p
    · simp [h, same_string]
    · simp [h, same_string]
theorem Dm_del (l : L Nat) (p : Path) : (Dm l).del (.string p) = Dm (del p l) := by
  show DataW.map _ = DataW.map _
  rw [filter_string]
theorem insert_string (p : Path) (q : Nat) : ∀ l : L Nat, DataW.insert (.string p, .lit (.int .i64 q)) (l.map fun e => ((Lit.string e.1, DataW.lit (H := Unit) (.int .i64 e.2)))) = (ins p q l).map fun e => (.string e.1, .lit (.int .i64 e.2))
  | [] => rfl
  | e :: l => by
    rw [List.map_cons]
    unfold DataW.insert ins
    show (if bytesBefore p e.1 = true then _ else _) = _
    split
    · rfl
    · rw [insert_string p q l]; rfl
theorem Dm_put (l : L Nat) (p : Path) (q : Nat) : (Dm l).put (.string p) (.lit (.int .i64 q)) = Dm (put p q l) := by
  show DataW.map _ = DataW.map _
  rw [filter_string, insert_string]; rfl
theorem Dm_size (l : L Nat) : Maps.size (Dm l) = l.length := List.length_map _

/-! ### a disk -/
/-- A file: its bytes, and whether it is synced. -/
structure Fil where
  b : List UInt8
  sure : Bool
/-- A disk: how many bytes it takes, whether it is off, how many operations are still to fail, its files. -/
structure DS where
  most : Nat
  off : Bool
  bad : Nat
  fs : L Fil
/-- A fuse: behind how many it blows, how many there were, whether it is blown. -/
structure FS where
  n : Int
  ops : Nat
  blown : Bool
def tot (l : L Fil) : Nat := (l.map fun e => e.2.b.length).sum
def olen (p : Path) (l : L Fil) : Nat := match get p l with | some f => f.b.length | none => 0
theorem tot_cons (e : Path × Fil) (l : L Fil) : tot (e :: l) = e.2.b.length + tot l := by unfold tot; rw [List.map_cons, List.sum_cons]
theorem tot_ins (p : Path) (x : Fil) : ∀ l : L Fil, tot (ins p x l) = x.b.length + tot l
  | [] => rfl
  | e :: l => by
    unfold ins
    split
    · rw [tot_cons]
    · rw [tot_cons, tot_ins p x l, tot_cons]; omega
theorem tot_del {l : L Fil} (hu : Up l) (p : Path) : tot (del p l) + olen p l = tot l := by
  induction l with
  | nil => rfl
  | cons e l ih =>
    have h1 := ih hu.tail
    unfold olen at h1 ⊢
    rw [del_cons, get_cons]
    by_cases h : e.1 = p
    · have hn : ∀ x ∈ l, x.1 ≠ p := fun x hx => by rw [← h]; exact (before_ne (hu.head _ hx)).symm
      rw [if_pos h, if_pos h, del_none hn, tot_cons]; simp only; omega
    · rw [if_neg h, if_neg h, tot_cons, tot_cons]; omega
theorem tot_put {l : L Fil} (hu : Up l) (p : Path) (x : Fil) : tot (put p x l) + olen p l = x.b.length + tot l := by
  unfold put
  rw [tot_ins]
  have := tot_del hu p
  omega
theorem tot_mem {l : L Fil} {e : Path × Fil} (h : e ∈ l) : e.2.b.length ≤ tot l := by
  induction l with
  | nil => cases h
  | cons x l ih =>
    rw [tot_cons]
    rcases List.mem_cons.1 h with rfl | h
    · omega
    · have := ih h; omega
theorem olen_le (p : Path) (l : L Fil) : olen p l ≤ tot l := by
  unfold olen
  split
  · rename_i f hf; exact tot_mem (get_mem hf)
  · omega

def okP (p : Path) : Bool := decide (1 ≤ p.length ∧ p.length ≤ 600)
/-- The fuse counts an operation: is it done? -/
def ticks : Option FS → Bool × Option FS
  | none => (true, none)
  | some z => if z.blown then (false, some z) else (true, some ⟨z.n, z.ops + 1, decide (0 < z.n ∧ z.n ≤ (z.ops : Int) + 1)⟩)
/-- An operation begins: the error's number; the fuse, the disk behind it. -/
def begins (z : Option FS) (d : DS) (ps : List Path) : Nat × Option FS × DS :=
  if (ticks z).1 = false then (20, (ticks z).2, d)
  else if d.off then (10, (ticks z).2, d)
  else if 0 < d.bad then (9, (ticks z).2, { d with bad := d.bad - 1 })
  else if ps.all okP then (0, (ticks z).2, d)
  else (1, (ticks z).2, d)
end Go.Proofs.Ytnphkddhckcpmaa.Dk
