/-
  Rows joined again, in plain Lean; that what was cut comes back. No program in sight.
-/
import Derived.Test.YtflockpdojjgeaaStrPure
namespace Go.Proofs.Ytflockpdojjgeaa.Stripe

/-- The part of a row that stands in the stripe from 'at' on. -/
def chunk (n b p : Nat) (r : List UInt8) : List UInt8 := (r.drop p).take (min (p + b) n - p)
def jf : Nat → List (List UInt8) → Nat → Nat → Nat → List UInt8
  | 0, _, _, _, _ => []
  | f + 1, rows, n, b, p => if p < n then rows.flatMap (chunk n b p) ++ jf f rows n b (p + b) else []
/-- All from the stripe at p on. -/
def join (rows : List (List UInt8)) (n b p : Nat) : List UInt8 := jf (n - p) rows n b p

theorem jf_fuel : ∀ (f g : Nat) (rows : List (List UInt8)) (n b p : Nat), 0 < b → n ≤ p + f → n ≤ p + g → jf f rows n b p = jf g rows n b p
  | 0, 0, _, _, _, _, _, _, _ => rfl
  | 0, g + 1, rows, n, b, p, _, h, _ => by unfold jf; rw [if_neg (by omega)]
  | f + 1, 0, rows, n, b, p, _, _, h => by unfold jf; rw [if_neg (by omega)]
  | f + 1, g + 1, rows, n, b, p, hb, h1, h2 => by
    unfold jf
    rw [jf_fuel f g rows n b (p + b) hb (by omega) (by omega)]
theorem join_end (rows : List (List UInt8)) {n b p : Nat} (h : n ≤ p) : join rows n b p = [] := by
  unfold join; rw [Nat.sub_eq_zero_of_le h]; rfl
theorem join_step (rows : List (List UInt8)) {n b p : Nat} (hb : 0 < b) (h : p < n) : join rows n b p = rows.flatMap (chunk n b p) ++ join rows n b (p + b) := by
  unfold join
  obtain ⟨f, hf⟩ : ∃ f, n - p = f + 1 := ⟨n - p - 1, by omega⟩
  rw [hf]
  show (if p < n then _ else _) = _
  rw [if_pos h, jf_fuel f (n - (p + b)) rows n b (p + b) hb (by omega) (by omega)]
theorem chunk_len {n b p : Nat} {r : List UInt8} (h : r.length = n) : (chunk n b p r).length = min (p + b) n - p := by
  unfold chunk
  rw [List.length_take, List.length_drop]; omega
theorem flat_len {n b p : Nat} : ∀ (rows : List (List UInt8)), (∀ r ∈ rows, r.length = n) → (rows.flatMap (chunk n b p)).length = rows.length * (min (p + b) n - p)
  | [], _ => by simp
  | r :: rows, h => by
    rw [List.flatMap_cons, List.length_append, chunk_len (h r (by simp)), flat_len rows (fun r' h' => h r' (by simp [h'])), List.length_cons, Nat.succ_mul]; omega
theorem join_len (rows : List (List UInt8)) {n b : Nat} (hb : 0 < b) (hr : ∀ r ∈ rows, r.length = n) : ∀ (m p : Nat), n - p ≤ m → (join rows n b p).length = rows.length * (n - p)
  | 0, p, h => by rw [join_end rows (by omega), show n - p = 0 by omega]; rfl
  | m + 1, p, h => by
    by_cases hp : p < n
    · rw [join_step rows hb hp, List.length_append, flat_len rows hr, join_len rows hb hr m (p + b) (by omega), ← Nat.mul_add]
      congr 1; omega
    · rw [join_end rows (by omega), show n - p = 0 by omega]; rfl

theorem flatMap_shift {n b m p : Nat} : ∀ (rows heads : List (List UInt8)), rows.length = heads.length → (∀ h ∈ heads, h.length = m) →
    ((heads.zip rows).map fun x => x.1 ++ x.2).flatMap (chunk (m + n) b (m + p)) = rows.flatMap (chunk n b p)
  | [], _, _, _ => by simp
  | r :: rows, [], h, _ => by simp at h
  | r :: rows, h :: heads, e, hm => by
    simp only [List.zip_cons_cons, List.map_cons, List.flatMap_cons]
    rw [flatMap_shift rows heads (by simpa using e) (fun x hx => hm x (by simp [hx]))]
    congr 1
    have hl := hm h (by simp)
    unfold chunk
    rw [List.drop_append, List.drop_of_length_le (by omega), List.nil_append, hl, show m + p - m = p by omega]
    congr 1; omega
theorem join_shift {b : Nat} (hb : 0 < b) (rows heads : List (List UInt8)) (n m : Nat) (e : rows.length = heads.length) (hm : ∀ h ∈ heads, h.length = m) : ∀ (q p : Nat), n - p ≤ q →
    join ((heads.zip rows).map fun x => x.1 ++ x.2) (m + n) b (m + p) = join rows n b p
  | 0, p, h => by rw [join_end _ (by omega), join_end _ (by omega)]
  | q + 1, p, h => by
    by_cases hp : p < n
    · rw [join_step _ hb (by omega : m + p < m + n), join_step _ hb hp, flatMap_shift rows heads e hm, Nat.add_assoc, join_shift hb rows heads n m e hm q (p + b) (by omega)]
    · rw [join_end _ (by omega), join_end _ (by omega)]

/-- The rows of some data. -/
def rows (D : List UInt8) (k b : Nat) : List (List UInt8) := (List.range k).map (row D k b)
theorem rows_len (D : List UInt8) (k b : Nat) : (rows D k b).length = k := by simp [rows]
theorem rows_each {D : List UInt8} {k b : Nat} (hk : 0 < k) (hb : 0 < b) : ∀ r ∈ rows D k b, r.length = len D.length k b := by
  intro r hr
  obtain ⟨i, _, rfl⟩ := List.mem_map.1 hr
  exact row_length i hk hb
theorem rows_step {D : List UInt8} {k b : Nat} (hD : D ≠ []) (hk : 0 < k) (hb : 0 < b) :
    rows D k b = ((((List.range k).map (cut (blk D.length k b) D)).zip (rows (D.drop (k * blk D.length k b)) k b)).map fun x => x.1 ++ x.2) := by
  unfold rows
  apply List.ext_getElem?
  intro i
  by_cases h : i < k
  · simp [h, row_step i hD hk hb]
  · rw [List.getElem?_eq_none (by simp; omega), List.getElem?_eq_none (by simp; omega)]
/-- The blocks of a stripe, one behind the other: the data's beginning, noughts behind it where it ends. -/
theorem cuts_flat (n : Nat) (D : List UInt8) : ∀ k, k * n ≤ D.length → (List.range k).flatMap (cut n D) = D.take (k * n)
  | 0, _ => by simp
  | k + 1, h => by
    rw [Nat.succ_mul] at h ⊢
    rw [List.range_succ, List.flatMap_append, cuts_flat n D k (by omega), List.flatMap_cons, List.flatMap_nil, List.append_nil]
    unfold cut pad
    have : ((D.drop (k * n)).take n).length = n := by rw [List.length_take, List.length_drop]; omega
    rw [this, Nat.sub_self, List.replicate_zero, List.append_nil, List.take_add]
theorem cuts_flat_pad (n : Nat) (D : List UInt8) : ∀ k, ∃ z, (List.range k).flatMap (cut n D) = D.take (k * n) ++ List.replicate z 0
  | 0 => ⟨0, by simp⟩
  | k + 1 => by
    obtain ⟨z, hz⟩ := cuts_flat_pad n D k
    rw [List.range_succ, List.flatMap_append, List.flatMap_cons, List.flatMap_nil, List.append_nil, hz, Nat.succ_mul]
    by_cases h : k * n ≤ D.length
    · have hz0 := cuts_flat n D k h
      rw [hz] at hz0
      have : z = 0 := by
        have := congrArg List.length hz0
        simp at this; omega
      subst this
      refine ⟨n - ((D.drop (k * n)).take n).length, ?_⟩
      unfold cut pad
      rw [List.replicate_zero, List.append_nil, List.take_add, List.append_assoc]
    · refine ⟨z + n, ?_⟩
      unfold cut pad
      rw [List.drop_of_length_le (by omega), List.take_nil, List.nil_append, List.length_nil, Nat.sub_zero, List.append_assoc, List.replicate_append_replicate,
        List.take_of_length_le (by omega), List.take_of_length_le (by omega)]
theorem flatMap_heads {n b m : Nat} (hmb : min b n = m) : ∀ (rows heads : List (List UInt8)), rows.length = heads.length → (∀ h ∈ heads, h.length = m) →
    ((heads.zip rows).map fun x => x.1 ++ x.2).flatMap (chunk n b 0) = heads.flatten
  | [], [], _, _ => by simp
  | [], h :: heads, e, _ => by simp at e
  | r :: rows, [], h, _ => by simp at h
  | r :: rows, h :: heads, e, hm => by
    simp only [List.zip_cons_cons, List.map_cons, List.flatMap_cons, List.flatten_cons]
    rw [flatMap_heads hmb rows heads (by simpa using e) (fun x hx => hm x (by simp [hx]))]
    congr 1
    have hl := hm h (by simp)
    unfold chunk
    rw [List.drop_zero, Nat.zero_add, hmb, Nat.sub_zero, List.take_append, List.take_of_length_le (by omega), hl, Nat.sub_self, List.take_zero, List.append_nil]
theorem join_rows_aux : ∀ (m : Nat) (D : List UInt8) (k b : Nat), 0 < k → 0 < b → D.length ≤ m → ∃ z, join (rows D k b) (len D.length k b) b 0 = D ++ List.replicate z 0
  | 0, D, k, b, hk, hb, h => by
    have : D = [] := List.eq_nil_of_length_eq_zero (by omega)
    subst this
    refine ⟨0, ?_⟩
    rw [List.length_nil, len_zero hk, join_end _ (Nat.le_refl _)]; rfl
  | m + 1, D, k, b, hk, hb, h => by
    by_cases hD : D = []
    · subst hD
      refine ⟨0, ?_⟩
      rw [List.length_nil, len_zero hk, join_end _ (Nat.le_refl _)]; rfl
    · have hp : 0 < D.length := by
        cases D with
        | nil => exact absurd rfl hD
        | cons x l => simp
      have hbp := blk_pos hp hk hb
      have hbk : 0 < k * blk D.length k b := Nat.mul_pos hk hbp
      have hheads : ∀ h ∈ (List.range k).map (cut (blk D.length k b) D), h.length = blk D.length k b := by
        intro x hx
        obtain ⟨i, _, rfl⟩ := List.mem_map.1 hx
        exact cut_len _ _ _
      have hle : (rows (D.drop (k * blk D.length k b)) k b).length = ((List.range k).map (cut (blk D.length k b) D)).length := by rw [rows_len]; simp
      have hflat : ((List.range k).map (cut (blk D.length k b) D)).flatten = (List.range k).flatMap (cut (blk D.length k b) D) := by rw [List.flatMap_def]
      rw [rows_step hD hk hb]
      by_cases hs : k * b ≤ D.length
      · obtain ⟨e1, e2⟩ := len_big hb hk hs
        rw [e1] at hheads hle hflat ⊢
        rw [e2, join_step _ hb (by omega), flatMap_heads (by omega) _ _ hle hheads, Nat.zero_add]
        obtain ⟨z, hz⟩ := join_rows_aux m (D.drop (k * b)) k b hk hb (by rw [List.length_drop]; rw [e1] at hbk; omega)
        rw [List.length_drop] at hz
        have hsh := join_shift hb (rows (D.drop (k * b)) k b) ((List.range k).map (cut b D)) (len (D.length - k * b) k b) b hle hheads _ 0 (Nat.le_refl _)
        rw [Nat.add_zero] at hsh
        refine ⟨z, ?_⟩
        rw [hsh, hz, hflat, cuts_flat b D k hs, ← List.append_assoc, List.take_append_drop]
      · have e1 := len_small hb hk (by omega : D.length < k * b)
        rw [e1, join_step _ hb (by omega), flatMap_heads (by unfold blk; omega) _ _ hle hheads, Nat.zero_add, join_end _ (by unfold blk; omega), List.append_nil, hflat]
        obtain ⟨z, hz⟩ := cuts_flat_pad (blk D.length k b) D k
        refine ⟨z, ?_⟩
        have h1 := (len_mul (n := D.length) hk hb).1
        rw [e1] at h1
        rw [hz, List.take_of_length_le (by rw [Nat.mul_comm]; omega)]
/-- What was cut is joined again. -/
theorem join_rows {D : List UInt8} {k b : Nat} (hk : 0 < k) (hb : 0 < b) : (join (rows D k b) (len D.length k b) b 0).take D.length = D := by
  obtain ⟨z, hz⟩ := join_rows_aux _ D k b hk hb (Nat.le_refl _)
  rw [hz, List.take_left']
  rfl
end Go.Proofs.Ytflockpdojjgeaa.Stripe
