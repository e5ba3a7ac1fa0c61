/-
  ArrayVoices, the plain law: which voices there are behind what befell each disk.
-/
import Derived.Test.YthkbbcdnmdjhdaaArMp
/-! XArNp: ArrayVoices, the plain law: which voices there are behind what befell each disk. -/
namespace Go.Proofs.Ythkbbcdnmdjhdaa
open Go.RowKit
namespace Dk
/-- The kind of what befalls disk i. -/
def kd (l : List UInt8) (i : Nat) : Nat := if i < l.length then (l.getD i 0).toNat % 5 else 0
theorem kd_lt (l : List UInt8) (i : Nat) : kd l i < 5 := by
  unfold kd
  split
  · exact Nat.mod_lt _ (by decide)
  · decide
def sbf1 : List UInt8 := [83, 66, 70, 49]
/-- What a formatted disk becomes. -/
def VK (K M : Nat) (k i : Nat) : DS :=
  if k = 1 then { ok1 (fF (fmtB K M i) true) with off := true }
  else if k = 2 then ok1 []
  else if k = 3 then { ok1 (fF (fmtB K M i) true) with bad := 1 }
  else if k = 4 then ok1 (fF sbf1 false)
  else ok1 (fF (fmtB K M i) true)
/-- The disks behind the first i. -/
def DV (K M : Nat) (l : List UInt8) (i : Nat) : Nat → DS := fun j => if j < i then VK K M (kd l j) j else ok1 []
theorem DV_step (K M : Nat) (l : List UInt8) (i : Nat) : upd (DV K M l i) i (VK K M (kd l i) i) = DV K M l (i + 1) := by
  funext j
  unfold upd DV
  by_cases h1 : j = i
  · subst h1; rw [if_pos rfl, if_pos (by omega)]
  · rw [if_neg h1]
    by_cases h2 : j < i
    · rw [if_pos h2, if_pos (by omega)]
    · rw [if_neg h2, if_neg (by omega)]
theorem DV_save {n i : Nat} (K M m : Nat) (l : List UInt8) (hi : i < n) : (lv n m (DV K M l i)).save i fmtP (fmtB K M i) = (0, lv n (m + 3) (upd (DV K M l i) i (ok1 (fF (fmtB K M i) true)))) :=
  save_lv m hi (fs := []) (by unfold DV; rw [if_neg (by omega)]) (.inl rfl) _ (by rw [fmtB_len]; decide)
theorem DV_on {n i : Nat} (K M m k : Nat) (l : List UInt8) (hi : i < n) (F : DS → DS) (hk : kd l i = k) (hF : F (ok1 (fF (fmtB K M i) true)) = VK K M k i) :
    (lv n m (upd (DV K M l i) i (ok1 (fF (fmtB K M i) true)))).on i F = lv n m (DV K M l (i + 1)) := by
  rw [lv_on _ _ hi, upd_same, upd_upd, hF, ← hk, DV_step]
theorem DV_same {i : Nat} (K M : Nat) (l : List UInt8) (hk : kd l i = 0) : upd (DV K M l i) i (ok1 (fF (fmtB K M i) true)) = DV K M l (i + 1) := by
  rw [← DV_step, hk]; rfl
theorem DV_write {n i : Nat} (K M m : Nat) (l : List UInt8) (hi : i < n) (hk : kd l i = 4) :
    ((lv n m (upd (DV K M l i) i (ok1 (fF (fmtB K M i) true)))).op i fun z d => writes z d fmtP sbf1) = (0, lv n (m + 1) (DV K M l (i + 1))) := by
  have h := lv_op (n := n) (m := m) (D := upd (DV K M l i) i (ok1 (fF (fmtB K M i) true))) hi (f := fun z d => writes z d fmtP sbf1) (by rw [upd_same]; exact lv_wf m _ (.inr ⟨_, _, rfl, by rw [fmtB_len]; decide⟩) sbf1 (by decide))
  rw [upd_upd] at h
  rw [h, ← DV_step, hk]
  rfl
theorem vk_snd (K M k i : Nat) : Snd (VK K M k i) := by
  have h := fmt_snd K M i true
  unfold VK
  split
  · exact h.same rfl rfl
  split
  · exact snd_ok (.inl rfl)
  split
  · exact h.same rfl rfl
  split
  · exact snd_ok (.inr ⟨_, _, rfl, by decide⟩)
  · exact h
theorem DV_snd (K M : Nat) (l : List UInt8) (i j : Nat) : Snd (DV K M l i j) := by
  unfold DV
  split
  · exact vk_snd ..
  · exact snd_ok (.inl rfl)
theorem vo_ok (c : List UInt8) (s : Bool) (w : List UInt8) : vo (ok1 (fF c s)) w = (c == w, 0) := by simp [vo, get, fF, ok1]
theorem vo_no (w : List UInt8) : vo (ok1 []) w = (false, 0) := by simp [vo, get, ok1]
theorem vk_vo (K M k i : Nat) (hk : k < 5) : (vo (VK K M k i) (fmtB K M i)).1 = decide (k = 0) ∧ (vo (vn (VK K M k i)) (fmtB K M i)).1 = decide (k = 0 ∨ k = 3) := by
  have hs : (sbf1 == fmtB K M i) = false := rfl
  have hc : k = 0 ∨ k = 1 ∨ k = 2 ∨ k = 3 ∨ k = 4 := by omega
  rcases hc with rfl | rfl | rfl | rfl | rfl
  · have e : VK K M 0 i = ok1 (fF (fmtB K M i) true) := rfl
    have e2 : vn (ok1 (fF (fmtB K M i) true)) = ok1 (fF (fmtB K M i) true) := rfl
    rw [e, e2, vo_ok]; simp
  · exact ⟨rfl, rfl⟩
  · have e : VK K M 2 i = ok1 [] := rfl
    have e2 : vn (ok1 []) = ok1 [] := rfl
    rw [e, e2, vo_no]; simp
  · have e2 : vn (VK K M 3 i) = ok1 (fF (fmtB K M i) true) := rfl
    rw [e2, vo_ok]
    exact ⟨rfl, by simp⟩
  · have e : VK K M 4 i = ok1 (fF sbf1 false) := rfl
    have e2 : vn (ok1 (fF sbf1 false)) = ok1 (fF sbf1 false) := rfl
    rw [e, e2, vo_ok, hs]; simp
/-- What the law wants. -/
def wants (l : List UInt8) (n : Nat) : List Nat := (List.range n).filter fun i => decide (kd l i = 0)
def agains (l : List UInt8) (n : Nat) : List Nat := (List.range n).filter fun i => decide (kd l i = 0 ∨ kd l i = 3)
theorem wants_succ (l : List UInt8) (n : Nat) : wants l (n + 1) = if kd l n = 0 then wants l n ++ [n] else wants l n := by
  unfold wants
  rw [List.range_succ, List.filter_append]
  split
  · rw [List.filter_cons_of_pos (by simpa using ‹_›)]; rfl
  · rw [List.filter_cons_of_neg (by simpa using ‹_›), List.filter_nil, List.append_nil]
theorem agains_succ (l : List UInt8) (n : Nat) : agains l (n + 1) = if kd l n = 0 ∨ kd l n = 3 then agains l n ++ [n] else agains l n := by
  unfold agains
  rw [List.range_succ, List.filter_append]
  split
  · rw [List.filter_cons_of_pos (by simpa using ‹_›)]; rfl
  · rename_i h
    rw [List.filter_cons_of_neg (by rw [decide_eq_true_eq]; exact h), List.filter_nil, List.append_nil]
theorem wants_len (l : List UInt8) (n : Nat) : (wants l n).length ≤ n := Nat.le_trans (List.length_filter_le ..) (by simp)
theorem agains_len (l : List UInt8) (n : Nat) : (agains l n).length ≤ n := Nat.le_trans (List.length_filter_le ..) (by simp)
/-- The voices at the first asking, and at the second. -/
theorem voices_plain {n : Nat} (K M m : Nat) (l : List UInt8) (D2 : Nat → DS) (hD2 : D2 = fun j => if j < n then vn (DV K M l n j) else DV K M l n j) :
    (lv n m (DV K M l n)).voices (fmtB K M) n = (wants l n, lv n (m + n) D2) ∧ ((lv n (m + n) D2).voices (fmtB K M) n).1 = agains l n ∧ ∀ j, Snd (D2 j) := by
  refine ⟨?_, ?_, ?_⟩
  · rw [voices_lv (n := n) m _ _ n (Nat.le_refl _), hD2]
    congr 1
    refine List.filter_congr fun i hi => ?_
    have hi' := List.mem_range.1 hi
    unfold DV
    rw [if_pos hi', (vk_vo K M _ i (kd_lt l i)).1]
  · rw [voices_lv (n := n) (m + n) _ _ n (Nat.le_refl _)]
    show (List.range n).filter _ = _
    refine List.filter_congr fun i hi => ?_
    have hi' := List.mem_range.1 hi
    rw [hD2]
    simp only [hi', if_true]
    unfold DV
    rw [if_pos hi', (vk_vo K M _ i (kd_lt l i)).2]
  · intro j
    rw [hD2]
    simp only
    have h := DV_snd K M l n j
    split
    · unfold vn
      split
      · exact h
      split
      · exact h.same rfl rfl
      · exact h
    · exact h
end Dk
end Go.Proofs.Ythkbbcdnmdjhdaa
