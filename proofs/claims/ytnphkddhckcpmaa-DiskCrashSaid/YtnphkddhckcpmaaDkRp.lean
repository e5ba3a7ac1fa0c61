/-
  A disk's life of deeds 0 to 6; what a rename leaves: the plain law.
-/
import Derived.Test.YtnphkddhckcpmaaRfH
import Derived.Test.YtnphkddhckcpmaaDkFp
namespace Go.Proofs.Ytnphkddhckcpmaa
open Go.RowKit Dk
set_option maxRecDepth 100000
set_option maxHeartbeats 4000000

theorem okP_le {p : Path} (h : okP p = true) : p.length ≤ 600 := by unfold okP at h; exact (of_decide_eq_true h).2
theorem Thing.Ent.fourth {X Y Z V R : Thing} : (X.star (Y.star (Z.star (V.star R)))).Ent (V.star (X.star (Y.star (Z.star R)))) := (Thing.Ent.star (.refl _) (.trans (.star (.refl _) .swap) .swap)).trans .swap
/-- The fourth and the fifth ahead. -/
theorem Lab.front2 {w0 w : World} {X Y Z A B R : Thing} (h : Lab w0 w (X.star (Y.star (Z.star (A.star (B.star R)))))) : Lab w0 w (A.star (B.star (X.star (Y.star (Z.star R))))) := (h.ent .fourth).ent (.star (.refl _) .fourth)
def lookb (p : Path) (l : L Fil) : List UInt8 := match Dk.get p l with | some f => f.b | none => []
def looks (p : Path) (l : L Fil) : Bool := match Dk.get p l with | some f => f.sure | none => false
theorem Lab.look2 {w0 w : World} {Z : Thing} {s : Nat} {fp : Option Nat} {d : DS} (hL : Lab w0 w Z) (hS : Lab w0 w (simT s fp d)) (p : Path) (hp : p.length ≤ maxLen) (ht : tot d.fs ≤ 1099511627776) :
    Calls Try.prog 29 #[.pointer (some ⟨s, 0, none⟩), .string (bstr p)] w fun e w' => ∃ u, e = .returned (.tuple #[u, .bool (looks p d.fs), .bool (Dk.get p d.fs).isSome]) ∧ Lab w0 w' ((ownT 5 u (bvs (lookb p d.fs))).star Z) := by
  have h := hL.look hS p hp ht
  unfold looks lookb
  cases hg : Dk.get p d.fs with
  | none => simp only [hg] at h; exact h
  | some f => simp only [hg] at h; exact h
structure Life (n : Nat) (d : DS) (i : Nat) : Prop where
  calm : DS.calm d n
  few : Few d i
  ok : ∀ e ∈ d.fs, okP e.1 = true
theorem Life.start (n : Nat) : Life n ⟨n, false, 0, []⟩ 0 := ⟨⟨rfl, rfl, rfl⟩, ⟨Up.nil, Nat.le_refl _, Nat.le_refl _⟩, by simp⟩
theorem Life.more {n : Nat} {d : DS} {i : Nat} (h : Life n d i) : Life n d (i + 1) := ⟨h.calm, h.few.more, h.ok⟩
theorem calm_begins2 {d : DS} {n : Nat} (h : DS.calm d n) (ps : List Path) : begins none d ps = (if ps.all okP = true then 0 else 1, none, d) := by
  unfold begins
  rw [h.2.1, h.2.2]
  cases hp : ps.all okP <;> rfl
theorem calm_opens {d : DS} {n : Nat} (h : DS.calm d n) (p : Path) (more : List Path) : opens none d p more = if (p :: more).all okP = true then (if (get p d.fs).isSome then 0 else 6) else 1 := by
  unfold opens
  rw [calm_begins2 h]
  cases (p :: more).all okP <;> rfl
theorem Life.put {n : Nat} {d : DS} {i : Nat} (h : Life n d i) {p : Path} (hp : okP p = true) {f : Fil} (hf : f.b.length ≤ 5000 ∨ ∃ g, get p d.fs = some g ∧ f.b.length ≤ g.b.length) : Life n { d with fs := put p f d.fs } (i + 1) := by
  have h1 := tot_put h.few.up p f
  have h2 := put_length h.few.up p f
  have hl := h.few.len
  have ht := h.few.tot
  have ho : olen p d.fs ≤ tot d.fs := olen_le p d.fs
  refine ⟨h.calm, ⟨put_up h.few.up, ?_, ?_⟩, fun e he => ?_⟩
  · show (Dk.put p f d.fs).length ≤ i + 1
    rw [h2]; split <;> omega
  · show Dk.tot (Dk.put p f d.fs) ≤ (i + 1) * 5000
    rcases hf with hf | ⟨g, hg, hf⟩
    · omega
    · have : olen p d.fs = g.b.length := by unfold olen; rw [hg]
      omega
  · rcases mem_put.1 he with rfl | ⟨he, -⟩
    · exact hp
    · exact h.ok e he
theorem Life.del {n : Nat} {d : DS} {i : Nat} (h : Life n d i) (p : Path) : Life n { d with fs := del p d.fs } (i + 1) :=
  ⟨h.calm, (del_few h.few p).1, fun e he => h.ok e (mem_del.1 he).1⟩
/-- What a rename of what is there leaves. -/
def moved (p q : Path) (f : Fil) (l : L Fil) : L Fil := if p = q then l else del p (Dk.put q f l)
theorem Life.move {n : Nat} {d : DS} {i : Nat} (h : Life n d i) {p q : Path} (hq : okP q = true) {f : Fil} (hf : get p d.fs = some f) : Life n { d with fs := moved p q f d.fs } (i + 1) ∧ tot (moved p q f d.fs) + (if p = q then 0 else olen q d.fs) = tot d.fs := by
  unfold moved
  by_cases hpq : p = q
  · rw [if_pos hpq, if_pos hpq]; exact ⟨h.more, rfl⟩
  · rw [if_neg hpq, if_neg hpq]
    have h1 := tot_put h.few.up q f
    have h2 := put_length h.few.up q f
    have hu := put_up (p := q) (x := f) h.few.up
    have h3 := tot_del hu p
    have h4 := del_length hu p
    have hg : get p (Dk.put q f d.fs) = some f := by rw [get_put h.few.up, if_neg (fun e => hpq e.symm), hf]
    have h5 : olen p (Dk.put q f d.fs) = f.b.length := by unfold olen; rw [hg]
    rw [hg] at h4
    have hl := h.few.len
    have ht := h.few.tot
    refine ⟨⟨h.calm, ⟨del_up hu p, ?_, ?_⟩, fun e he => ?_⟩, by omega⟩
    · show (Dk.del p (Dk.put q f d.fs)).length ≤ i + 1
      simp only [Option.isSome_some, if_true] at h4
      have : (Dk.put q f d.fs).length ≤ d.fs.length + 1 := by rw [h2]; split <;> omega
      omega
    · show Dk.tot (Dk.del p (Dk.put q f d.fs)) ≤ (i + 1) * 5000
      omega
    · rcases mem_put.1 (mem_del.1 he).1 with rfl | ⟨he, -⟩
      · exact hq
      · exact h.ok e he
theorem calm_renames {n : Nat} {d : DS} {i : Nat} (h : Life n d i) {p q : Path} (hp : okP p = true) (hq : okP q = true) {f : Fil} (hf : get p d.fs = some f) : renames none d p q = (0, none, { d with fs := moved p q f d.fs }) := by
  unfold renames moved
  rw [calm_opens h.calm, calm_begins2 h.calm, hf]
  simp only [List.all_cons, List.all_nil, hp, hq, Bool.and_true, if_true, Option.isSome_some]
  by_cases hpq : p = q
  · rw [if_pos hpq, if_pos hpq]
  · rw [if_neg hpq, if_neg hpq]
theorem moved_get {d : DS} (hu : Up d.fs) {p q : Path} {f : Fil} (hf : get p d.fs = some f) : get q (moved p q f d.fs) = some f ∧ (get p (moved p q f d.fs)).isSome = (p == q) := by
  unfold moved
  by_cases hpq : p = q
  · subst hpq; rw [if_pos rfl, hf]; simp
  · rw [if_neg hpq]
    have hb : (p == q) = false := by simpa using hpq
    rw [get_del, if_neg hpq, get_put hu, if_pos rfl, get_del, if_pos rfl, hb]
    exact ⟨rfl, rfl⟩
theorem Life.step {n : Nat} {d : DS} {i : Nat} {x : Deed} (h : Life n d i) (hx : x.data.length ≤ 5000) : (stepB none d x).1 = none ∧ Life n (stepB none d x).2 (i + 1) := by
  obtain ⟨xd, xn, xa, xb, xt⟩ := x
  have hx : xt.length ≤ 5000 := hx
  have hw : (writes none d xa xt).2.1 = none ∧ Life n (writes none d xa xt).2.2 (i + 1) := by
    unfold writes
    rw [calm_begins2 h.calm]
    cases hp : ([xa].all okP) with
    | false => simp only [Bool.false_eq_true, if_false]; rw [if_pos (by decide)]; exact ⟨rfl, h.more⟩
    | true =>
      have hok : okP xa = true := by simpa using hp
      obtain ⟨mn, hmn⟩ : ∃ mn, (if (get xa d.fs).isSome then d.fs.length else d.fs.length + 1) = mn := ⟨_, rfl⟩
      simp only [hmn, if_true]
      rw [if_neg (by simp)]
      by_cases h2 : 262144 < xt.length
      · rw [if_pos h2]; exact ⟨rfl, h.more⟩
      · rw [if_neg h2]
        by_cases h3 : d.most + olen xa d.fs < tot d.fs + xt.length ∨ 4096 < mn
        · rw [if_pos h3]; exact ⟨rfl, h.more⟩
        · rw [if_neg h3]; exact ⟨rfl, h.put hok (.inl hx)⟩
  unfold stepB
  simp only
  by_cases c0 : xd = 0
  · rw [if_pos c0, calm_begins2 h.calm]; exact ⟨rfl, h.more⟩
  rw [if_neg c0]
  by_cases c1 : xd = 1
  · rw [if_pos c1]; exact hw
  rw [if_neg c1]
  by_cases c2 : xd = 2
  · rw [if_pos c2]; exact hw
  rw [if_neg c2]
  by_cases c3 : xd = 3
  · rw [if_pos c3]
    unfold syncs
    rw [calm_opens h.calm, calm_begins2 h.calm]
    cases hp : ([xa].all okP) with
    | false => simp only [Bool.false_eq_true, if_false]; exact ⟨rfl, h.more⟩
    | true =>
      have hok : okP xa = true := by simpa using hp
      simp only [if_true]
      cases hg : get xa d.fs with
      | none => exact ⟨rfl, h.more⟩
      | some f => exact ⟨rfl, h.put hok (.inr ⟨f, hg, Nat.le_refl _⟩)⟩
  rw [if_neg c3]
  by_cases c4 : xd = 4
  · rw [if_pos c4]
    cases hp : ([xa, xb].all okP) with
    | false =>
      unfold renames
      rw [calm_opens h.calm, calm_begins2 h.calm, hp]
      simp only [Bool.false_eq_true, if_false]; exact ⟨rfl, h.more⟩
    | true =>
      have hok : okP xa = true ∧ okP xb = true := by simpa using hp
      cases hg : get xa d.fs with
      | none =>
        unfold renames
        rw [calm_opens h.calm, calm_begins2 h.calm, hp, hg]
        exact ⟨rfl, h.more⟩
      | some f =>
        rw [calm_renames h hok.1 hok.2 hg]
        exact ⟨rfl, (h.move hok.2 hg).1⟩
  rw [if_neg c4]
  by_cases c5 : xd = 5
  · rw [if_pos c5]
    unfold deletes
    rw [calm_opens h.calm, calm_begins2 h.calm]
    cases hp : ([xa].all okP) with
    | false => simp only [Bool.false_eq_true, if_false]; exact ⟨rfl, h.more⟩
    | true =>
      simp only [if_true]
      cases hg : get xa d.fs with
      | none => exact ⟨rfl, h.more⟩
      | some f => exact ⟨rfl, h.del xa⟩
  rw [if_neg c5, calm_begins2 h.calm]
  exact ⟨rfl, h.more⟩
end Go.Proofs.Ytnphkddhckcpmaa
