/-
  DiskLists: the plain law.
-/
import Derived.Test.YtnphkddhckcpmaaDkZ
namespace Go.Proofs.Ytnphkddhckcpmaa
open Go.RowKit Dk
set_option maxRecDepth 100000
set_option maxHeartbeats 4000000

/-- A disk that is on, with room for much. -/
def DS.calm (d : DS) (n : Nat) : Prop := d.most = n ∧ d.off = false ∧ d.bad = 0
theorem calm_begins {d : DS} {n : Nat} (h : DS.calm d n) (ps : List Path) (hp : ps.all okP = true) : begins none d ps = (0, none, d) := by
  unfold begins
  rw [h.2.1, h.2.2, hp]; rfl
/-- How much is on a disk behind i deeds. -/
structure Few (d : DS) (i : Nat) : Prop where
  up : Up d.fs
  len : d.fs.length ≤ i
  tot : tot d.fs ≤ i * 5000
theorem Few.more {d : DS} {i : Nat} (h : Few d i) : Few d (i + 1) := ⟨h.up, by have := h.len; omega, by have := h.tot; omega⟩
theorem calm_writes {d : DS} {n i : Nat} (h : DS.calm d n) (hf : Few d i) (p : Path) (hp : okP p = true) (b : List UInt8) (hb : b.length ≤ 5000) (hn : (i + 1) * 5000 ≤ n) (hi : i < 4096) :
    writes none d p b = (0, none, { d with fs := put p ⟨b, false⟩ d.fs }) ∧ Few { d with fs := put p ⟨b, false⟩ d.fs } (i + 1) := by
  have h1 := tot_put hf.up p ⟨b, false⟩
  have h2 := put_length hf.up p (⟨b, false⟩ : Fil)
  have h3 : (⟨b, false⟩ : Fil).b.length = b.length := rfl
  have hl := hf.len
  have ht := hf.tot
  refine ⟨?_, put_up hf.up, ?_, ?_⟩
  · unfold writes
    rw [calm_begins h [p] (by simp [hp])]
    obtain ⟨mn, hmn⟩ : ∃ mn, (if (get p d.fs).isSome then d.fs.length else d.fs.length + 1) = mn := ⟨_, rfl⟩
    have hmn2 : mn ≤ 4096 := by rw [← hmn]; split <;> omega
    have hm := h.1
    simp only [hmn]
    rw [if_neg (by simp), if_neg (by omega), if_neg (by omega)]
  · show (put p (⟨b, false⟩ : Fil) d.fs).length ≤ i + 1
    rw [h2]; split <;> omega
  · show Dk.tot (put p (⟨b, false⟩ : Fil) d.fs) ≤ (i + 1) * 5000
    omega
/-- The names so far, and what each was written with last. -/
structure Named (w : World) (d : DS) (ns : List Path) (dv : List Value) : Prop where
  nd : ns.Nodup
  iff : ∀ p, p ∈ ns ↔ (get p d.fs).isSome = true
  len : d.fs.length = ns.length
  lv : dv.length = ns.length
  ok : ∀ p, p ∈ ns → okP p = true
  dat : ∀ (k : Nat) (u : Value) (p : Path), dv[k]? = some u → ns[k]? = some p → ∃ f a c, get p d.fs = some f ∧ u = .slice a f.b.length c ∧ Bytes w u f.b
theorem Named.start (w : World) (m : Nat) : Named w ⟨m, false, 0, []⟩ [] [] := ⟨List.nodup_nil, fun p => by simp [Dk.get], rfl, rfl, fun p hp => by simp at hp, fun k u p h => by simp at h⟩
theorem Named.more {w : World} {d : DS} {ns : List Path} {dv : List Value} (h : Named w d ns dv) (hu : Up d.fs) {p : Path} (hp : p ∉ ns) (hk : okP p = true) {a : Option Addr} {b : List UInt8} {c : Nat} (hb : Bytes w (.slice a b.length c) b) : Named w { d with fs := put p ⟨b, false⟩ d.fs } (ns ++ [p]) (dv ++ [.slice a b.length c]) := by
  have hg : get p d.fs = none := by
    cases hg : get p d.fs with
    | none => rfl
    | some f => exact absurd ((h.iff p).2 (by rw [hg]; rfl)) hp
  refine ⟨?_, fun q => ?_, ?_, by simp [h.lv], fun q hq => (List.mem_append.1 hq).elim (h.ok q) fun hq => by rw [List.mem_singleton.1 hq]; exact hk, fun k u q hk hq => ?_⟩
  · rw [List.nodup_append]
    exact ⟨h.nd, by simp, fun x hx y hy => by
      simp only [List.mem_singleton] at hy
      intro e; rw [e, hy] at hx; exact hp hx⟩
  · rw [List.mem_append, List.mem_singleton, h.iff]
    show _ ↔ (get q (put p ⟨b, false⟩ d.fs)).isSome = true
    rw [get_put hu]
    by_cases e : p = q
    · rw [if_pos e]; simp [e]
    · rw [if_neg e]
      exact ⟨fun hh => hh.elim id fun e2 => absurd e2.symm e, .inl⟩
  · show (put p (⟨b, false⟩ : Fil) d.fs).length = _
    rw [put_length hu, hg]; simp [h.len]
  · show ∃ f a c, get q (put p ⟨b, false⟩ d.fs) = some f ∧ _
    rw [get_put hu]
    by_cases hlt : k < ns.length
    · rw [List.getElem?_append_left (by rw [h.lv]; exact hlt)] at hk
      rw [List.getElem?_append_left hlt] at hq
      have hne : ¬ p = q := fun e => hp (e ▸ List.mem_of_getElem? hq)
      rw [if_neg hne]
      exact h.dat k u q hk hq
    · rw [List.getElem?_append_right (by omega)] at hq
      rw [List.getElem?_append_right (by rw [h.lv]; omega), h.lv] at hk
      have h0 : k - ns.length = 0 := by
        have := (List.getElem?_eq_some_iff.1 hq).1
        simp at this; omega
      rw [h0] at hk hq
      simp at hk hq
      subst hk hq
      rw [if_pos rfl]
      exact ⟨_, _, _, rfl, rfl, hb⟩
theorem Named.again {w : World} {d : DS} {ns : List Path} {dv : List Value} (h : Named w d ns dv) (hu : Up d.fs) {p : Path} {k : Nat} (hp : ns[k]? = some p) {a : Option Addr} {b : List UInt8} {c : Nat} (hb : Bytes w (.slice a b.length c) b) : Named w { d with fs := put p ⟨b, false⟩ d.fs } ns (dv.set k (.slice a b.length c)) := by
  have hin : (get p d.fs).isSome = true := (h.iff p).1 (List.mem_of_getElem? hp)
  refine ⟨h.nd, fun q => ?_, ?_, by simp [h.lv], h.ok, fun j u q hk hq => ?_⟩
  · rw [h.iff]
    show _ ↔ (get q (put p ⟨b, false⟩ d.fs)).isSome = true
    rw [get_put hu]
    by_cases e : p = q
    · rw [if_pos e, ← e, hin]; simp
    · rw [if_neg e]
  · show (put p (⟨b, false⟩ : Fil) d.fs).length = _
    rw [put_length hu, hin, if_pos rfl, h.len]
  · show ∃ f a c, get q (put p ⟨b, false⟩ d.fs) = some f ∧ _
    rw [get_put hu]
    rw [List.getElem?_set] at hk
    by_cases e : k = j
    · subst e
      rw [hp] at hq
      obtain rfl := Option.some.inj hq
      rw [if_pos rfl] at hk ⊢
      split at hk
      · cases hk; exact ⟨_, _, _, rfl, rfl, hb⟩
      · cases hk
    · rw [if_neg e] at hk
      have hne : ¬ p = q := fun e2 => by
        subst e2
        obtain ⟨h1, h2⟩ := List.getElem?_eq_some_iff.1 hp
        obtain ⟨h3, h4⟩ := List.getElem?_eq_some_iff.1 hq
        exact e ((List.getElem_inj h.nd).1 (h2.trans h4.symm))
      rw [if_neg hne]
      exact h.dat j u q hk hq
/-- Where a name stands among the first k, or -1. -/
def Where (ns : List Path) (p : Path) (k : Nat) (x : Int) : Prop := (x = -1 ∧ ∀ j, j < k → ns[j]? ≠ some p) ∨ ∃ j : Nat, j < k ∧ x = (j : Int) ∧ ns[j]? = some p
theorem Where.start (ns : List Path) (p : Path) : Where ns p 0 (-1) := .inl ⟨rfl, fun _ hj => absurd hj (Nat.not_lt_zero _)⟩
theorem Where.hit {ns : List Path} {p : Path} {k : Nat} (h : ns[k]? = some p) : Where ns p (k + 1) (k : Int) := .inr ⟨k, by omega, rfl, h⟩
theorem Where.miss {ns : List Path} {p q : Path} {k : Nat} {x : Int} (h : Where ns p k x) (hq : ns[k]? = some q) (hn : ¬ q = p) : Where ns p (k + 1) x := by
  rcases h with ⟨h1, h2⟩ | ⟨j, h1, h2, h3⟩
  · refine .inl ⟨h1, fun j hj => ?_⟩
    by_cases e : j = k
    · subst e; rw [hq]; exact fun e => hn (Option.some.inj e)
    · exact h2 j (by omega)
  · exact .inr ⟨j, by omega, h2, h3⟩
theorem Where.none {ns : List Path} {p : Path} (h : Where ns p ns.length (-1)) : p ∉ ns := fun hm => by
  obtain ⟨j, hj⟩ := List.mem_iff_getElem?.1 hm
  rcases h with ⟨-, h2⟩ | ⟨j, -, h2, -⟩
  · exact h2 j (List.getElem?_eq_some_iff.1 hj).1 hj
  · omega
/-- What is read of a calm disk. -/
theorem calm_read {d : DS} {n : Nat} (h : DS.calm d n) {p : Path} (hp : okP p = true) {f : Fil} (hf : get p d.fs = some f) : opens none d p [] = 0 ∧ readb none d p = f.b ∧ begins none d [p] = (0, none, d) := by
  have hb := calm_begins h [p] (by simp [hp])
  have ho : opens none d p [] = 0 := by unfold opens; rw [hb]; simp [hf]
  refine ⟨ho, ?_, hb⟩
  unfold readb
  rw [ho, if_pos rfl, hf]
theorem calm_lists {d : DS} {n : Nat} (h : DS.calm d n) (p : Path) : lists none d p = having p (paths d.fs) ∧ begins none d [] = (0, none, d) := by
  have hb := calm_begins h [] rfl
  refine ⟨?_, hb⟩
  unfold lists
  rw [hb, if_pos rfl]; rfl
theorem having_nil (ps : List Path) : having [] ps = ps := by unfold having; simp
theorem having_take {p : Path} {ps : List Path} {i : Nat} (hi : i < ps.length) : having p (ps.take (i + 1)) = having p (ps.take i) ++ (if p.isPrefixOf ps[i] then [ps[i]] else []) := by
  unfold having
  rw [List.take_add_one, List.filter_append, List.getElem?_eq_getElem hi]
  simp only [Option.toList_some, List.filter_cons, List.filter_nil]
/-- The one that comes next among those that begin so. -/
theorem having_get {p : Path} {ps : List Path} {i : Nat} (hi : i < ps.length) (hp : p.isPrefixOf ps[i] = true) : (having p ps)[(having p (ps.take i)).length]? = some ps[i] := by
  have e : having p ps = having p (ps.take i) ++ (ps[i] :: having p (ps.drop (i + 1))) := by
    have h1 : ps = ps.take i ++ (ps[i] :: ps.drop (i + 1)) := by rw [List.getElem_cons_drop, List.take_append_drop]
    conv => lhs; rw [h1]
    unfold having
    rw [List.filter_append, List.filter_cons, if_pos hp]
  rw [e, List.getElem?_append_right (Nat.le_refl _)]
  simp
theorem paths_up {α : Type} {l : L α} (h : Up l) {i : Nat} (hi : i + 1 < (paths l).length) : bytesBefore (paths l)[i] (paths l)[i + 1] = true := by
  have h2 : (paths l).Pairwise fun a b => bytesBefore a b = true := List.pairwise_map.2 h
  exact List.pairwise_iff_getElem.1 h2 i (i + 1) (by omega) hi (by omega)
theorem less_before : ∀ a b : Path, Op.bytesLess a b = bytesBefore a b
  | [], [] => rfl
  | [], _ :: _ => rfl
  | _ :: _, [] => rfl
  | a :: ra, b :: rb => by unfold Op.bytesLess bytesBefore; rw [less_before ra rb]
/-- Does it begin so? As the program asks. -/
theorem prefix_cases (q p : Path) : (p.isPrefixOf q = true ∧ p.length ≤ q.length ∧ (((bstr q).extract 0 p.length).toList == p) = true) ∨ (p.isPrefixOf q = false ∧ (q.length < p.length ∨ (p.length ≤ q.length ∧ (((bstr q).extract 0 p.length).toList == p) = false))) := by
  have h := Lib.hasPrefix_raw (bstr q) (bstr p)
  have eb : ∀ p : Path, (bstr p).data.toList = p := fun p => by unfold bstr; simp
  have el : (bstr p).toList = p := bstr_toList p
  rw [bstr_size, bstr_size, eb, eb, el] at h
  unfold Lib.hasPrefix at h
  cases hp : p.isPrefixOf q with
  | true =>
    rw [hp] at h
    simp only [Bool.and_eq_true, decide_eq_true_eq] at h
    exact .inl ⟨rfl, h⟩
  | false =>
    rw [hp] at h
    refine .inr ⟨rfl, ?_⟩
    by_cases hl : p.length ≤ q.length
    · refine .inr ⟨hl, ?_⟩
      rw [show decide (p.length ≤ q.length) = true from by simpa using hl, Bool.true_and] at h
      exact h
    · exact .inl (by omega)
end Go.Proofs.Ytnphkddhckcpmaa
