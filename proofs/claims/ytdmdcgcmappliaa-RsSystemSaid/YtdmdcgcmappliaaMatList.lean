/-
  Matrices as lists of rows: product, unit, powers, inverse, as the code makes them; and what they are, entry by entry. No program in sight.
-/
import Derived.Test.YtdmdcgcmappliaaMatInv
namespace Go.Proofs.Ytdmdcgcmappliaa.Mat
open Go.Proofs.Ytdmdcgcmappliaa.Gf

abbrev M := List (List UInt8)
def en (A : M) : Fn := fun i j => (A.getD i []).getD j 0
def Sh (A : M) (n m : Nat) : Prop := A.length = n ∧ ∀ r ∈ A, r.length = m
theorem Sh.row {A : M} {n m : Nat} (h : Sh A n m) {i : Nat} (hi : i < n) : (A.getD i []).length = m := by
  have hi2 : i < A.length := by rw [h.1]; exact hi
  rw [List.getD_eq_getElem?_getD, List.getElem?_eq_getElem hi2]
  exact h.2 _ (List.getElem_mem hi2)
theorem getD_lt {α : Type} {l : List α} {i : Nat} (h : i < l.length) (d : α) : l.getD i d = l[i] := by
  rw [List.getD_eq_getElem?_getD, List.getElem?_eq_getElem h]; rfl
theorem mat_ext {A B : M} {n m : Nat} (hA : Sh A n m) (hB : Sh B n m) (h : EqOn n m (en A) (en B)) : A = B := by
  apply List.ext_getElem (by rw [hA.1, hB.1])
  intro i h1 h2
  have hi : i < n := by rw [← hA.1]; exact h1
  have l1 := hA.2 _ (List.getElem_mem h1)
  have l2 := hB.2 _ (List.getElem_mem h2)
  apply List.ext_getElem (by rw [l1, l2])
  intro j h3 h4
  have e := h i hi j (by rw [← l1]; exact h3)
  unfold en at e
  rw [getD_lt h1, getD_lt h2, getD_lt h3, getD_lt h4] at e
  exact e
theorem Sh.of_map {n m : Nat} {f : Nat → List UInt8} (h : ∀ i, i < n → (f i).length = m) : Sh ((List.range n).map f) n m :=
  ⟨by simp, fun r hr => by obtain ⟨i, hi, rfl⟩ := List.mem_map.1 hr; exact h i (by simpa using hi)⟩
theorem range_getD {α : Type} {n : Nat} (f : Nat → α) {i : Nat} (h : i < n) (d : α) : ((List.range n).map f).getD i d = f i := by
  rw [getD_lt (by simpa using h)]; simp
theorem zeros_getD (n j : Nat) : (List.replicate n (0 : UInt8)).getD j 0 = 0 := by
  rw [List.getD_eq_getElem?_getD, List.getElem?_replicate]
  split <;> rfl
theorem mad_getD (d s : List UInt8) (c : UInt8) (j : Nat) (hd : j < d.length) (hs : j < s.length) : (mad d s c).getD j 0 = d.getD j 0 ^^^ g8 (s.getD j 0) c := by
  rw [List.getD_eq_getElem?_getD, mad_get, List.getElem?_eq_getElem hd, List.getElem?_eq_getElem hs, getD_lt hd, getD_lt hs]; rfl

/-- Row r times the first k rows of b. -/
def rowk (r : List UInt8) (b : M) (m : Nat) : Nat → List UInt8
  | 0 => List.replicate m 0
  | k + 1 => mad (rowk r b m k) (b.getD k []) (r.getD k 0)
theorem rowk_len (r : List UInt8) (b : M) (m : Nat) : ∀ k, (rowk r b m k).length = m
  | 0 => by simp [rowk]
  | k + 1 => by unfold rowk; rw [mad_length, rowk_len r b m k]
theorem rowk_getD (r : List UInt8) {b : M} {m n : Nat} (hb : Sh b n m) {j : Nat} (hj : j < m) : ∀ k, k ≤ n → (rowk r b m k).getD j 0 = sm k (fun k => g8 (en b k j) (r.getD k 0))
  | 0, _ => zeros_getD _ _
  | k + 1, h => by
    unfold rowk
    rw [mad_getD _ _ _ _ (by rw [rowk_len]; exact hj) (by rw [hb.row (by omega)]; exact hj), rowk_getD r hb hj k (by omega)]
    rfl
/-- The product of a and b; m is how many columns b has. -/
def mmul (a b : M) (m : Nat) : M := a.map fun r => rowk r b m b.length
theorem mmul_sh {a b : M} {n k m : Nat} (ha : Sh a n k) : Sh (mmul a b m) n m :=
  ⟨by unfold mmul; rw [List.length_map, ha.1], fun r hr => by obtain ⟨x, _, rfl⟩ := List.mem_map.1 hr; exact rowk_len _ _ _ _⟩
theorem mmul_row {a b : M} {n k m : Nat} (ha : Sh a n k) {i : Nat} (hi : i < n) : (mmul a b m).getD i [] = rowk (a.getD i []) b m b.length := by
  have hi2 : i < a.length := by rw [ha.1]; exact hi
  unfold mmul
  rw [getD_lt (by simpa using hi2), getD_lt hi2]; simp
theorem mmul_en {a b : M} {n k m : Nat} (ha : Sh a n k) (hb : Sh b k m) : EqOn n m (en (mmul a b m)) (mul k (en a) (en b)) := by
  intro i hi j hj
  unfold en
  rw [mmul_row ha hi, rowk_getD _ hb hj b.length (by rw [hb.1]; exact Nat.le_refl _), hb.1]
  rfl

def unit (n : Nat) : M := (List.range n).map fun i => (List.replicate n 0).set i 1
theorem unit_sh (n : Nat) : Sh (unit n) n n := Sh.of_map fun i _ => by simp
theorem unit_en (n : Nat) : EqOn n n (en (unit n)) one := by
  intro i hi j hj
  unfold en unit
  rw [range_getD _ hi, List.getD_eq_getElem?_getD, List.getElem?_set]
  unfold one
  by_cases e : i = j
  · rw [if_pos e, if_pos e, if_pos (by simpa using hi)]; rfl
  · rw [if_neg e, if_neg e, ← List.getD_eq_getElem?_getD, zeros_getD]
def vand (n k : Nat) : M := (List.range n).map fun r => (List.range k).map fun c => pw (UInt8.ofNat r) c
theorem vand_sh (n k : Nat) : Sh (vand n k) n k := Sh.of_map fun i _ => by simp
theorem vand_en (n k : Nat) : EqOn n k (en (vand n k)) (fun i j => pw (UInt8.ofNat i) j) := by
  intro i hi j hj
  unfold en vand
  rw [range_getD _ hi, range_getD _ hj]

/-- The first row from p on that has something in column c. -/
def pvf (x : M) (c : Nat) : Nat → Nat → Option Nat
  | 0, _ => none
  | f + 1, p => if en x p c = 0 then pvf x c f (p + 1) else some p
def pv (x : M) (n c : Nat) : Option Nat := pvf x c (n - c) c
theorem pvf_some {x : M} {c : Nat} : ∀ {f p q : Nat}, pvf x c f p = some q → p ≤ q ∧ q < p + f ∧ en x q c ≠ 0
  | 0, _, _, h => by cases h
  | f + 1, p, q, h => by
    unfold pvf at h
    split at h
    · obtain ⟨h1, h2, h3⟩ := pvf_some h
      exact ⟨by omega, by omega, h3⟩
    · rename_i hn
      simp only [Option.some.injEq] at h
      subst h
      exact ⟨Nat.le_refl _, by omega, hn⟩
theorem pvf_none {x : M} {c : Nat} : ∀ {f p : Nat}, pvf x c f p = none → ∀ q, p ≤ q → q < p + f → en x q c = 0
  | 0, _, _, q, h1, h2 => by omega
  | f + 1, p, h, q, h1, h2 => by
    unfold pvf at h
    split at h
    · rename_i hz
      by_cases e : q = p
      · rw [e]; exact hz
      · exact pvf_none h q (by omega) (by omega)
    · cases h
def swap (x : M) (c p : Nat) : M := (x.set c (x.getD p [])).set p (x.getD c [])
def scale (x : M) (n c : Nat) (f : UInt8) : M := x.set c (mad (List.replicate n 0) (x.getD c []) f)
/-- The rows ahead of r: g i times row c is added, but to row c. -/
def clear (y : M) (c : Nat) (g : Nat → UInt8) (r : Nat) : M := (List.range y.length).map fun i => if i < r ∧ i ≠ c then mad (y.getD i []) (y.getD c []) (g i) else y.getD i []

theorem set_getD (x : M) (i j : Nat) (r : List UInt8) (hi : i < x.length) : (x.set i r).getD j [] = if j = i then r else x.getD j [] := by
  rw [List.getD_eq_getElem?_getD, List.getElem?_set, List.getD_eq_getElem?_getD]
  by_cases e : i = j
  · rw [if_pos e, if_pos hi, if_pos e.symm]; rfl
  · rw [if_neg e, if_neg (fun h => e h.symm)]
theorem Sh.set {x : M} {n m : Nat} (h : Sh x n m) {i : Nat} {r : List UInt8} (hr : r.length = m) : Sh (x.set i r) n m :=
  ⟨by rw [List.length_set, h.1], fun y hy => (List.mem_or_eq_of_mem_set hy).elim (fun h1 => h.2 _ h1) (fun h1 => h1 ▸ hr)⟩
theorem swap_sh {x : M} {n m c p : Nat} (h : Sh x n m) (hc : c < n) (hp : p < n) : Sh (swap x c p) n m := (h.set (h.row hp)).set (h.row hc)
theorem swap_row {x : M} {n m c p : Nat} (h : Sh x n m) (hc : c < n) (hp : p < n) (i : Nat) : (swap x c p).getD i [] = if i = c then x.getD p [] else if i = p then x.getD c [] else x.getD i [] := by
  unfold swap
  rw [set_getD _ _ _ _ (by rw [List.length_set, h.1]; exact hp), set_getD _ _ _ _ (by rw [h.1]; exact hc)]
  by_cases e : i = p
  · rw [if_pos e]
    by_cases e2 : i = c
    · rw [if_pos e2, ← e, ← e2]
    · rw [if_neg e2, if_pos e]
  · rw [if_neg e]
    by_cases e2 : i = c
    · rw [if_pos e2, if_pos e2]
    · rw [if_neg e2, if_neg e2, if_neg e]
theorem swap_en {x : M} {n m c p : Nat} (h : Sh x n m) (hc : c < n) (hp : p < n) : EqOn n m (en (swap x c p)) (swp c p (en x)) := by
  intro i _ j _
  unfold en swp
  rw [swap_row h hc hp]
  by_cases e : i = c
  · rw [if_pos e, if_pos e]
  · rw [if_neg e, if_neg e]
    by_cases e2 : i = p
    · rw [if_pos e2, if_pos e2]
    · rw [if_neg e2, if_neg e2]
theorem scale_sh {x : M} {n m c : Nat} {f : UInt8} (h : Sh x n m) : Sh (scale x m c f) n m := h.set (by rw [mad_length]; simp)
theorem scale_en {x : M} {n m c : Nat} {f : UInt8} (h : Sh x n m) (hc : c < n) : EqOn n m (en (scale x m c f)) (scl c f (en x)) := by
  intro i _ j hj
  unfold en scl scale
  rw [set_getD _ _ _ _ (by rw [h.1]; exact hc)]
  by_cases e : i = c
  · rw [if_pos e, if_pos e, mad_getD _ _ _ _ (by simpa using hj) (by rw [h.row hc]; exact hj), zeros_getD, zerox]
  · rw [if_neg e, if_neg e]
theorem clear_row {y : M} {n m c r : Nat} {g : Nat → UInt8} (h : Sh y n m) {i : Nat} (hi : i < n) : (clear y c g r).getD i [] = if i < r ∧ i ≠ c then mad (y.getD i []) (y.getD c []) (g i) else y.getD i [] := by
  unfold clear
  rw [range_getD _ (by rw [h.1]; exact hi)]
theorem clear_sh {y : M} {n m c r : Nat} {g : Nat → UInt8} (h : Sh y n m) : Sh (clear y c g r) n m := by
  have := Sh.of_map (n := y.length) (m := m) (f := fun i => if i < r ∧ i ≠ c then mad (y.getD i []) (y.getD c []) (g i) else y.getD i []) (fun i hi => by
    have := h.row (i := i) (by rw [← h.1]; exact hi)
    split
    · rw [mad_length, this]
    · exact this)
  rw [h.1] at this
  unfold clear
  rw [h.1]; exact this
theorem clear_en {y : M} {n m c : Nat} {g : Nat → UInt8} (h : Sh y n m) (hc : c < n) : EqOn n m (en (clear y c g n)) (clr c g (en y)) := by
  intro i hi j hj
  unfold en clr
  rw [clear_row h hi]
  by_cases e : i = c
  · rw [if_neg (fun h => h.2 e), if_pos e]
  · rw [if_pos ⟨hi, e⟩, if_neg e, mad_getD _ _ _ _ (by rw [h.row hi]; exact hj) (by rw [h.row hc]; exact hj)]
theorem clear_zero {y : M} {c : Nat} {g : Nat → UInt8} : clear y c g 0 = y := by
  apply List.ext_getElem (by unfold clear; simp)
  intro i h1 h2
  unfold clear
  simp [h2]
/-- One row more. -/
theorem clear_succ {y : M} {n m c r : Nat} {g : Nat → UInt8} (h : Sh y n m) (hc : c < n) (hr : r < n) :
    clear y c g (r + 1) = if r = c then clear y c g r else (clear y c g r).set r (mad ((clear y c g r).getD r []) ((clear y c g r).getD c []) (g r)) := by
  have hl : (clear y c g r).length = n := (clear_sh h).1
  have hl' : (clear y c g (r + 1)).length = n := (clear_sh h).1
  have key : ∀ i, i < n → (clear y c g (r + 1)).getD i [] = if i = r ∧ r ≠ c then mad (y.getD i []) (y.getD c []) (g i) else (clear y c g r).getD i [] := by
    intro i hi
    rw [clear_row h hi, clear_row h hi]
    by_cases e : i = r
    · subst e
      by_cases e2 : i = c
      · rw [if_neg (fun h => h.2 e2), if_neg (fun h => h.2 e2), if_neg (fun h => h.2 e2)]
      · rw [if_pos ⟨by omega, e2⟩, if_pos ⟨rfl, e2⟩]
    · rw [if_neg (fun h : i = r ∧ _ => e h.1)]
      by_cases e3 : i < r ∧ i ≠ c
      · rw [if_pos e3, if_pos ⟨by omega, e3.2⟩]
      · rw [if_neg e3, if_neg (fun h => e3 ⟨by omega, h.2⟩)]
  by_cases e : r = c
  · rw [if_pos e]
    apply List.ext_getElem (by rw [hl, hl'])
    intro i h1 h2
    have := key i (by omega)
    rw [if_neg (fun h => h.2 e), getD_lt h1, getD_lt h2] at this
    exact this
  · rw [if_neg e]
    apply List.ext_getElem (by rw [List.length_set, hl, hl'])
    intro i h1 h2
    have hi : i < n := by omega
    have := key i hi
    rw [getD_lt h1] at this
    rw [this, ← getD_lt h2 [], set_getD _ _ _ _ (by rw [hl]; exact hr)]
    by_cases e2 : i = r
    · subst e2
      rw [if_pos ⟨rfl, e⟩, if_pos rfl, clear_row h hi, if_neg (fun h => by omega), clear_row h hc, if_neg (fun h => h.2 rfl)]
    · rw [if_neg (fun h => e2 h.1), if_neg e2]

/-- A column's step, on both halves. -/
def stepX (x : M) (n c p : Nat) : M :=
  let x1 := swap x c p
  let x2 := scale x1 n c (gi (en x1 c c))
  clear x2 c (fun i => en x2 i c) n
def stepY (x y : M) (n c p : Nat) : M :=
  let x1 := swap x c p
  let x2 := scale x1 n c (gi (en x1 c c))
  clear (scale (swap y c p) n c (gi (en x1 c c))) c (fun i => en x2 i c) n
def gj (n : Nat) : Nat → Nat → M → M → Option M
  | 0, _, _, y => some y
  | f + 1, c, x, y => match pv x n c with
    | none => none
    | some p => gj n f (c + 1) (stepX x n c p) (stepY x y n c p)
/-- The inverse. -/
def minv (n : Nat) (a : M) : Option M := gj n n 0 a (unit n)
theorem step_sh {x y : M} {n c p : Nat} (hx : Sh x n n) (hy : Sh y n n) (hc : c < n) (hp : p < n) : Sh (stepX x n c p) n n ∧ Sh (stepY x y n c p) n n :=
  ⟨clear_sh (scale_sh (swap_sh hx hc hp)), clear_sh (scale_sh (swap_sh hy hc hp))⟩
theorem scl_f {c : Nat} {f g : UInt8} {A : Fn} (h : f = g) : scl c f A = scl c g A := by rw [h]
theorem clr_g {n m c : Nat} {f g : Nat → UInt8} {A : Fn} (h : ∀ i, i < n → f i = g i) : EqOn n m (clr c f A) (clr c g A) := by
  intro i hi j _
  unfold clr
  rw [h i hi]
theorem step_en {x : M} {n c p : Nat} (hx : Sh x n n) (hc : c < n) (hp : p < n) :
    EqOn n n (en (scale (swap x c p) n c (gi (en (swap x c p) c c)))) (scl c (gi (swp c p (en x) c c)) (swp c p (en x))) := by
  have e1 := swap_en hx hc hp
  refine (scale_en (swap_sh hx hc hp) hc).trans ?_
  rw [e1 c hc c hc]
  exact scl_on hc e1
theorem step_kept {A : Fn} {x y : M} {n c p : Nat} (hx : Sh x n n) (hy : Sh y n n) (hc : c < n) (hp : p < n) (hcp : c ≤ p) (hn : en x p c ≠ 0) (hk : Kept n A (en x) (en y)) (hd : Done n c (en x)) :
    Kept n A (en (stepX x n c p)) (en (stepY x y n c p)) ∧ Done n (c + 1) (en (stepX x n c p)) := by
  have x1 := step_en hx hc hp
  have s2 := scale_sh (c := c) (f := gi (en (swap x c p) c c)) (swap_sh hx hc hp)
  have t2 := scale_sh (c := c) (f := gi (en (swap x c p) c c)) (swap_sh hy hc hp)
  have y1 : EqOn n n (en (scale (swap y c p) n c (gi (en (swap x c p) c c)))) (scl c (gi (swp c p (en x) c c)) (swp c p (en y))) := by
    refine (scale_en (swap_sh hy hc hp) hc).trans ?_
    rw [swap_en hx hc hp c hc c hc]
    exact scl_on hc (swap_en hy hc hp)
  have xc : swp c p (en x) c c = en x p c := by unfold swp; rw [if_pos rfl]
  have hX : EqOn n n (en (stepX x n c p)) (clr c (fun i => scl c (gi (swp c p (en x) c c)) (swp c p (en x)) i c) (scl c (gi (swp c p (en x) c c)) (swp c p (en x)))) :=
    (clear_en s2 hc).trans ((clr_on hc x1).trans (clr_g fun i hi => x1 i hi c hc))
  have hY : EqOn n n (en (stepY x y n c p)) (clr c (fun i => scl c (gi (swp c p (en x) c c)) (swp c p (en x)) i c) (scl c (gi (swp c p (en x) c c)) (swp c p (en y)))) :=
    (clear_en t2 hc).trans ((clr_on hc y1).trans (clr_g fun i hi => x1 i hi c hc))
  refine ⟨(((hk.swp hc hp).scl (f' := en x p c) hc (by rw [xc, g8_comm, g8_gi hn])).clr hc _).on hX hY, ?_⟩
  intro i hi j hj
  have h := Done.step hd hc hp hcp hn i hi j hj
  rw [hX i hi j (by omega)]
  exact h
theorem gj_spec {A : Fn} {n : Nat} : ∀ (f c : Nat) (x y : M), c + f = n → Sh x n n → Sh y n n → Kept n A (en x) (en y) → Done n c (en x) →
    (∀ z, gj n f c x y = some z → Sh z n n ∧ EqOn n n (mul n (en z) A) one ∧ EqOn n n (mul n A (en z)) one) ∧ (gj n f c x y = none → ¬ Free n A)
  | 0, c, x, y, e, _, hy, hk, hd => by
    have e : c = n := by omega
    subst e
    refine ⟨fun z hz => ?_, fun h => by cases h⟩
    have hz : y = z := by simpa [gj] using hz
    subst hz
    exact ⟨hy, hk.fin hd⟩
  | f + 1, c, x, y, e, hx, hy, hk, hd => by
    have hc : c < n := by omega
    unfold gj
    cases hp : pv x n c with
    | none =>
      refine ⟨fun z hz => (by cases hz), fun _ => ?_⟩
      exact stuck hk hd hc fun p h1 h2 => pvf_none hp p h1 (by omega)
    | some p =>
      obtain ⟨h1, h2, h3⟩ := pvf_some hp
      have hpn : p < n := by omega
      obtain ⟨k1, k2⟩ := step_kept hx hy hc hpn h1 h3 hk hd
      obtain ⟨s1, s2⟩ := step_sh hx hy hc hpn
      exact gj_spec f (c + 1) _ _ (by omega) s1 s2 k1 k2
theorem minv_spec {n : Nat} {a z : M} (ha : Sh a n n) (h : minv n a = some z) : Sh z n n ∧ EqOn n n (mul n (en z) (en a)) one ∧ EqOn n n (mul n (en a) (en z)) one :=
  (gj_spec n 0 a (unit n) (by omega) ha (unit_sh n) ((Kept.start n (en a)).on (EqOn.refl _ _ _) (unit_en n)) (fun _ _ j hj => by omega)).1 z h
theorem minv_free {n : Nat} {a : M} (ha : Sh a n n) (h : Free n (en a)) : ∃ z, minv n a = some z := by
  cases e : minv n a with
  | some z => exact ⟨z, rfl⟩
  | none => exact absurd h ((gj_spec n 0 a (unit n) (by omega) ha (unit_sh n) ((Kept.start n (en a)).on (EqOn.refl _ _ _) (unit_en n)) (fun _ _ j hj => by omega)).2 e)
theorem gj_sh {n : Nat} : ∀ (f c : Nat) (x y : M), c + f ≤ n → Sh x n n → Sh y n n → ∀ z, gj n f c x y = some z → Sh z n n
  | 0, _, _, y, _, _, hy, z, hz => by
    have hz : y = z := by simpa [gj] using hz
    rw [← hz]; exact hy
  | f + 1, c, x, y, e, hx, hy, z, hz => by
    unfold gj at hz
    cases hp : pv x n c with
    | none => rw [hp] at hz; cases hz
    | some p =>
      rw [hp] at hz
      obtain ⟨h1, h2, h3⟩ := pvf_some hp
      obtain ⟨s1, s2⟩ := step_sh hx hy (c := c) (p := p) (by omega) (by omega)
      exact gj_sh f (c + 1) _ _ (by omega) s1 s2 z hz
end Go.Proofs.Ytdmdcgcmappliaa.Mat
