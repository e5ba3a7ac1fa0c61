/-
  An object cut to rows, in plain Lean: how long rows are, row by row, and how rows are joined. No program in sight.
-/
namespace Go.Proofs.Ytflockpdojjgeaa.Stripe

def up (n k : Nat) : Nat := (n + k - 1) / k
def len (size k b : Nat) : Nat := size / (k * b) * b + up (size % (k * b)) k
def pad (n : Nat) (l : List UInt8) : List UInt8 := l ++ List.replicate (n - l.length) 0
/-- How long the blocks of the next stripe are. -/
def blk (m k b : Nat) : Nat := min b (up m k)
/-- The i-th block of a stripe. -/
def cut (n : Nat) (D : List UInt8) (i : Nat) : List UInt8 := pad n ((D.drop (i * n)).take n)
def rowF : Nat → List UInt8 → Nat → Nat → Nat → List UInt8
  | 0, _, _, _, _ => []
  | f + 1, D, k, b, i => if D = [] then [] else cut (blk D.length k b) D i ++ rowF f (D.drop (k * blk D.length k b)) k b i
def row (D : List UInt8) (k b i : Nat) : List UInt8 := rowF D.length D k b i

theorem up_pos {n k : Nat} (hn : 0 < n) (hk : 0 < k) : 0 < up n k := by
  unfold up
  exact Nat.div_pos (by omega) hk
theorem up_mul {n k : Nat} (hk : 0 < k) : n ≤ up n k * k ∧ up n k * k < n + k := by
  unfold up
  have h1 := Nat.div_add_mod (n + k - 1) k
  have h2 := Nat.mod_lt (n + k - 1) hk
  rw [Nat.mul_comm] at h1
  omega
theorem up_le {n k c : Nat} (hk : 0 < k) : up n k ≤ c ↔ n ≤ c * k := by
  constructor
  · intro h
    exact Nat.le_trans (up_mul hk).1 (Nat.mul_le_mul_right k h)
  · intro h
    unfold up
    refine Nat.le_of_lt_succ ((Nat.div_lt_iff_lt_mul hk).2 ?_)
    rw [Nat.succ_mul]; omega
theorem le_up {n k c : Nat} (hk : 0 < k) (h : c * k ≤ n) : c ≤ up n k := by
  unfold up
  refine (Nat.le_div_iff_mul_le hk).2 (by omega)
theorem blk_pos {m k b : Nat} (hm : 0 < m) (hk : 0 < k) (hb : 0 < b) : 0 < blk m k b := by
  have := up_pos hm hk
  unfold blk; omega
theorem cut_len (n : Nat) (D : List UInt8) (i : Nat) : (cut n D i).length = n := by
  unfold cut pad
  rw [List.length_append, List.length_replicate, List.length_take]; omega
theorem rowF_fuel : ∀ (f g : Nat) (D : List UInt8) (k b i : Nat), 0 < k → 0 < b → D.length ≤ f → D.length ≤ g → rowF f D k b i = rowF g D k b i
  | 0, 0, _, _, _, _, _, _, _, _ => rfl
  | 0, g + 1, D, k, b, i, _, _, h, _ => by
    have : D = [] := List.eq_nil_of_length_eq_zero (by omega)
    simp [rowF, this]
  | f + 1, 0, D, k, b, i, _, _, _, h => by
    have : D = [] := List.eq_nil_of_length_eq_zero (by omega)
    simp [rowF, this]
  | f + 1, g + 1, D, k, b, i, hk, hb, h1, h2 => by
    unfold rowF
    by_cases h : D = []
    · rw [if_pos h, if_pos h]
    · rw [if_neg h, if_neg h]
      have hp : 0 < D.length := by
        cases D with
        | nil => exact absurd rfl h
        | cons x l => simp
      have hbk : 0 < k * blk D.length k b := Nat.mul_pos hk (blk_pos hp hk hb)
      rw [rowF_fuel f g _ k b i hk hb (by rw [List.length_drop]; omega) (by rw [List.length_drop]; omega)]
theorem row_nil (k b i : Nat) : row [] k b i = [] := rfl
theorem row_step {D : List UInt8} {k b : Nat} (i : Nat) (hD : D ≠ []) (hk : 0 < k) (hb : 0 < b) : row D k b i = cut (blk D.length k b) D i ++ row (D.drop (k * blk D.length k b)) k b i := by
  have hp : 0 < D.length := by
    cases D with
    | nil => exact absurd rfl hD
    | cons x l => simp
  have hbk : 0 < k * blk D.length k b := Nat.mul_pos hk (blk_pos hp hk hb)
  unfold row
  obtain ⟨f, hf⟩ : ∃ f, D.length = f + 1 := ⟨D.length - 1, by omega⟩
  rw [hf]
  show (if D = [] then [] else cut (blk D.length k b) D i ++ rowF f (D.drop (k * blk D.length k b)) k b i) = _
  rw [if_neg hD, hf]
  congr 1
  exact rowF_fuel _ _ _ k b i hk hb (by rw [List.length_drop]; rw [hf] at hbk; omega) (Nat.le_refl _)

theorem len_small {n k b : Nat} (_hb : 0 < b) (hk : 0 < k) (h : n < k * b) : len n k b = blk n k b := by
  unfold len blk
  rw [Nat.div_eq_of_lt h, Nat.mod_eq_of_lt h, Nat.zero_mul, Nat.zero_add]
  have : up n k ≤ b := (up_le hk).2 (by rw [Nat.mul_comm]; omega)
  omega
theorem len_big {n k b : Nat} (hb : 0 < b) (hk : 0 < k) (h : k * b ≤ n) : blk n k b = b ∧ len n k b = b + len (n - k * b) k b := by
  have hp : 0 < k * b := Nat.mul_pos hk hb
  have h1 : b ≤ up n k := le_up hk (by rw [Nat.mul_comm]; exact h)
  refine ⟨by unfold blk; omega, ?_⟩
  unfold len
  rw [Nat.div_eq_sub_div hp h, Nat.mod_eq_sub_mod h, Nat.succ_mul]; omega
theorem len_zero {k b : Nat} (hk : 0 < k) : len 0 k b = 0 := by
  unfold len up
  rw [Nat.zero_div, Nat.zero_mod, Nat.zero_mul, Nat.zero_add, Nat.zero_add]
  exact Nat.div_eq_of_lt (by omega)
theorem row_len : ∀ (m : Nat) (D : List UInt8) (k b i : Nat), 0 < k → 0 < b → D.length ≤ m → (row D k b i).length = len D.length k b
  | 0, D, k, b, i, hk, hb, h => by
    have : D = [] := List.eq_nil_of_length_eq_zero (by omega)
    subst this
    rw [row_nil]; exact (len_zero hk).symm
  | m + 1, D, k, b, i, hk, hb, h => by
    by_cases hD : D = []
    · subst hD; rw [row_nil]; exact (len_zero hk).symm
    · have hp : 0 < D.length := by
        cases D with
        | nil => exact absurd rfl hD
        | cons x l => simp
      have hbk : 0 < k * blk D.length k b := Nat.mul_pos hk (blk_pos hp hk hb)
      rw [row_step i hD hk hb, List.length_append, cut_len, row_len m _ k b i hk hb (by rw [List.length_drop]; omega), List.length_drop]
      by_cases hs : k * b ≤ D.length
      · obtain ⟨e1, e2⟩ := len_big hb hk hs
        rw [e1, e2]
      · have e1 := len_small hb hk (by omega : D.length < k * b)
        rw [e1]
        have e2 : D.length ≤ k * blk D.length k b := by
          have h1 := (up_mul (n := D.length) hk).1
          have h2 : up D.length k ≤ b := (up_le hk).2 (by rw [Nat.mul_comm]; omega)
          have h3 : blk D.length k b = up D.length k := by unfold blk; omega
          rw [h3, Nat.mul_comm]; exact h1
        rw [Nat.sub_eq_zero_of_le e2, len_zero hk]; omega
theorem row_length {D : List UInt8} {k b : Nat} (i : Nat) (hk : 0 < k) (hb : 0 < b) : (row D k b i).length = len D.length k b := row_len _ D k b i hk hb (Nat.le_refl _)
theorem len_mul {n k b : Nat} (hk : 0 < k) (hb : 0 < b) : n ≤ len n k b * k ∧ len n k b * k < n + k := by
  have hp : 0 < k * b := Nat.mul_pos hk hb
  have h1 := up_mul (n := n % (k * b)) hk
  have h2 := Nat.div_add_mod n (k * b)
  unfold len
  rw [Nat.add_mul]
  have h3 : n / (k * b) * b * k = k * b * (n / (k * b)) := by rw [Nat.mul_assoc, Nat.mul_comm b k, Nat.mul_comm]
  omega
end Go.Proofs.Ytflockpdojjgeaa.Stripe
