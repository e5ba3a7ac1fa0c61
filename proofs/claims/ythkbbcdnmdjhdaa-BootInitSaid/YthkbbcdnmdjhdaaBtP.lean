/-
  BootInit, the plain law: what Init does to blank disks one of which fails or is off.
-/
import Derived.Test.YthkbbcdnmdjhdaaArMp
import Derived.Test.YthkbbcdnmdjhdaaArK
import Derived.Test.YthkbbcdnmdjhdaaBtA
/-! XBtP: BootInit, the plain law: what Init does to blank disks one of which fails or is off. -/
namespace Go.Proofs.Ythkbbcdnmdjhdaa
open Go.RowKit
namespace Dk
/-- A disk that is off, or fails once. -/
def badK (k : Nat) : DS := if k = 1 then { ok1 [] with off := true } else { ok1 [] with bad := 1 }
def badK' (k : Nat) : DS := if k = 1 then { ok1 [] with off := true } else ok1 []
/-- The first i disks are formatted; the one at 'at' is bad. -/
def DI (K M a k i : Nat) : Nat → DS := fun j => if j < i then ok1 (fF (fmtB K M j) true) else if j = a then badK k else ok1 []
theorem DI_step {K M a k i : Nat} : upd (DI K M a k i) i (ok1 (fF (fmtB K M i) true)) = DI K M a k (i + 1) := by
  funext j
  unfold upd DI
  by_cases h1 : j = i
  · subst h1; rw [if_pos rfl, if_pos (by omega)]
  · rw [if_neg h1]
    by_cases h2 : j < i
    · rw [if_pos h2, if_pos (by omega)]
    · rw [if_neg h2, if_neg (show ¬ j < i + 1 by omega)]
theorem DI_save {n i : Nat} (K M a k m : Nat) (hi : i < n) (ha : i ≠ a) : (lv n m (DI K M a k i)).save i fmtP (fmtB K M i) = (0, lv n (m + 3) (DI K M a k (i + 1))) := by
  rw [← DI_step]
  exact save_lv m hi (fs := []) (by unfold DI; rw [if_neg (by omega), if_neg ha]) (.inl rfl) _ (by rw [fmtB_len]; decide)
theorem DI_inits {n : Nat} (K M a k m : Nat) : ∀ i, i ≤ n → i ≤ a → (lv n m (DI K M a k 0)).inits (fmtB K M) i = (0, lv n (m + 3 * i) (DI K M a k i))
  | 0, _, _ => rfl
  | i + 1, h1, h2 => by
    have ih := DI_inits (n := n) K M a k m i (by omega) (by omega)
    rw [AS.inits_go _ _ (by rw [ih]), ih]
    exact DI_save K M a k _ (by omega) (by omega)
theorem bad_w (m k : Nat) (b : List UInt8) : writes (some ⟨0, m, false⟩) (badK k) tmpP b = (if k = 1 then 10 else 9, some ⟨0, m + 1, false⟩, badK' k) := by
  unfold badK badK'
  by_cases h : k = 1
  · simp [h, writes, begins, ticks, ok1]
  · simp [h, writes, begins, ticks, ok1]
/-- Where a disk fails, Init ends. -/
theorem DI_stop {n : Nat} (K M a k m : Nat) (ha : a < n) : (lv n m (DI K M a k 0)).inits (fmtB K M) n = (if k = 1 then 10 else 9, lv n (m + 3 * a + 1) (upd (DI K M a k a) a (badK' k))) := by
  have h1 := DI_inits (n := n) K M a k m a (by omega) (Nat.le_refl _)
  have hD : DI K M a k a a = badK k := by unfold DI; rw [if_neg (by omega), if_pos rfl]
  have h2 : (lv n m (DI K M a k 0)).inits (fmtB K M) (a + 1) = (if k = 1 then 10 else 9, lv n (m + 3 * a + 1) (upd (DI K M a k a) a (badK' k))) := by
    rw [AS.inits_go _ _ (by rw [h1]), h1]
    have h3 := lv_op (m := m + 3 * a) (D := DI K M a k a) ha (f := fun z d => writes z d tmpP (fmtB K M a)) (by rw [hD]; exact bad_w _ _ _)
    unfold AS.save
    simp only
    rw [h3, if_pos (by show (if k = 1 then 10 else 9) ≠ 0; split <;> omega)]
  rw [← h2]
  exact AS.inits_stop _ _ (by rw [h2]; show (if k = 1 then 10 else 9) ≠ 0; split <;> omega) (by omega)
theorem range_filter (a : Nat) (g : Nat → Bool) (h : ∀ i, g i = decide (i < a)) : ∀ n, (List.range n).filter g = List.range (min a n)
  | 0 => by simp
  | n + 1 => by
    have ih := range_filter a g h n
    rw [List.range_succ, List.filter_append, ih]
    by_cases e : n < a
    · have h1 : g n = true := by rw [h]; simp [e]
      rw [List.filter_cons_of_pos h1, List.filter_nil, Nat.min_eq_right (by omega), Nat.min_eq_right (by omega), List.range_succ]
    · have h1 : g n = false := by rw [h]; simp [e]
      rw [List.filter_cons_of_neg (by rw [h1]; decide), List.filter_nil, List.append_nil, Nat.min_eq_left (by omega), Nat.min_eq_left (by omega)]
theorem voK_ok (c : List UInt8) (s : Bool) (w : List UInt8) : vo (ok1 (fF c s)) w = (c == w, 0) := by simp [vo, get, fF, ok1]
theorem voK_no (w : List UInt8) : vo (ok1 []) w = (false, 0) := by simp [vo, get, ok1]
/-- Init, and the voices behind it. -/
theorem binit_plain {n : Nat} (K M a k m : Nat) (ha : a ≤ n) :
    ((lv n m (DI K M a k 0)).inits (fmtB K M) n).1 = (if a < n then (if k = 1 then 10 else 9) else 0) ∧ (((lv n m (DI K M a k 0)).inits (fmtB K M) n).2.voices (fmtB K M) n).1 = List.range a := by
  by_cases h : a < n
  · rw [DI_stop K M a k m h, if_pos h]
    refine ⟨rfl, ?_⟩
    show ((lv n _ _).voices _ n).1 = _
    rw [voices_lv (n := n) _ _ _ n (Nat.le_refl _)]
    show (List.range n).filter _ = _
    rw [range_filter a _ (fun i => ?_) n, Nat.min_eq_left ha]
    by_cases e : i = a
    · subst e
      rw [upd_same]
      unfold badK'
      split
      · simp [vo]
      · rw [voK_no]; simp
    · rw [upd_other _ _ e]
      unfold DI
      by_cases h2 : i < a
      · rw [if_pos h2, voK_ok]; simp [h2]
      · rw [if_neg h2, if_neg e, voK_no]; simp [h2]
  · obtain rfl : a = n := by omega
    rw [DI_inits K M a k m a (Nat.le_refl _) (Nat.le_refl _), if_neg h]
    refine ⟨rfl, ?_⟩
    show ((lv a _ _).voices _ a).1 = _
    rw [voices_lv (n := a) _ _ _ a (Nat.le_refl _)]
    show (List.range a).filter _ = _
    rw [List.filter_congr (q := fun i => decide (i < a)) fun i hi => ?_, range_filter a _ (fun i => rfl) a, Nat.min_self]
    have hi' := List.mem_range.1 hi
    unfold DI
    rw [if_pos hi', voK_ok]; simp [hi']
theorem badK_snd (k : Nat) : Snd (badK k) := by
  unfold badK
  split
  · exact (snd_ok (.inl rfl)).same rfl rfl
  · exact (snd_ok (.inl rfl)).same rfl rfl
theorem DI_snd (K M a k i j : Nat) : Snd (DI K M a k i j) := by
  unfold DI
  split
  · exact fmt_snd ..
  · split
    · exact badK_snd k
    · exact snd_ok (.inl rfl)
end Dk
end Go.Proofs.Ythkbbcdnmdjhdaa
