/-
  Plain facts that the walks of matrices need. No statement about the program.
-/
import Derived.Test.YtdmdcgcmappliaaMatLaws
import Derived.Test.YtdmdcgcmappliaaGfE
namespace Go.Proofs.Ytdmdcgcmappliaa.Mat
open Go.Proofs.Ytdmdcgcmappliaa.Gf Go.Proofs.Ytdmdcgcmappliaa

theorem pw_ex (x : UInt8) (x0 : x.toNat ≠ 0) : ∀ n : Nat, (pw x n).toNat = ex (lg x.toNat * n)
  | 0 => rfl
  | n + 1 => by
    show (g8 (pw x n) x).toNat = _
    rw [g8_toNat, pw_ex x x0 n, pow_step _ _ (u8lt x) x0]
theorem pw_gpow (x : UInt8) (n : Nat) (h : n < 255) : gpow x.toNat n = (pw x n).toNat := by
  by_cases x0 : x.toNat = 0
  · have : x = 0 := u8_ext x0
    subst this
    cases n with
    | zero => rfl
    | succ n =>
      show _ = (g8 (pw 0 n) 0).toNat
      rw [g8_zero]
      unfold gpow
      rw [if_neg (by omega), if_neg (by omega), if_pos x0]
      rfl
  · rw [gpow_pos _ _ (by omega) x0, pw_ex x x0]
    congr 2
    omega
theorem mad_none : ∀ d s : List UInt8, mad d s 0 = d
  | [], _ => rfl
  | x :: d, [] => rfl
  | x :: d, y :: s => by
    show (x ^^^ g8 y 0) :: mad d s 0 = _
    rw [g8_zero, xzero, mad_none d s]
theorem set_self (l : M) (i : Nat) : l.set i (l.getD i []) = l := by
  apply List.ext_getElem (by simp)
  intro j h1 h2
  rw [List.getElem_set]
  split
  · rename_i e
    subst e
    exact getD_lt h2 _
  · rfl
theorem clear_at {y : M} {n m c r : Nat} {g : Nat → UInt8} (h : Sh y n m) (hr : r < n) : (clear y c g r).getD r [] = y.getD r [] := by
  rw [clear_row h hr, if_neg (by omega)]
theorem clear_piv {y : M} {n m c r : Nat} {g : Nat → UInt8} (h : Sh y n m) (hc : c < n) : (clear y c g r).getD c [] = y.getD c [] := by
  rw [clear_row h hc, if_neg (by omega)]
theorem clear_same {y : M} {n m c r : Nat} {g : Nat → UInt8} (h : Sh y n m) (hc : c < n) (hr : r < n) (hg : r = c ∨ g r = 0) : clear y c g (r + 1) = clear y c g r := by
  rw [clear_succ h hc hr]
  by_cases e : r = c
  · rw [if_pos e]
  · rw [if_neg e]
    rcases hg with hg | hg
    · exact absurd hg e
    · rw [hg, mad_none, set_self]
theorem clear_step {y : M} {n m c r : Nat} {g : Nat → UInt8} (h : Sh y n m) (hc : c < n) (hr : r < n) (e : r ≠ c) :
    clear y c g (r + 1) = (clear y c g r).set r (mad (y.getD r []) (y.getD c []) (g r)) := by
  rw [clear_succ h hc hr, if_neg e, clear_at h hr, clear_piv h hc]

/-- A matrix: its sides may be. -/
def Good (a : M) : Prop := ∃ n m, 1 ≤ n ∧ n ≤ 255 ∧ 1 ≤ m ∧ m ≤ 255 ∧ Sh a n m
theorem Good.sides {a : M} (h : Good a) : 1 ≤ a.length ∧ a.length ≤ 255 ∧ 1 ≤ (a.getD 0 []).length ∧ (a.getD 0 []).length ≤ 255 ∧ Sh a a.length (a.getD 0 []).length := by
  obtain ⟨n, m, h1, h2, h3, h4, h5⟩ := h
  have := h5.row (i := 0) (by omega)
  rw [this, h5.1]
  exact ⟨h1, h2, h3, h4, h5⟩
theorem good_iff (a : M) : Good a ↔ (1 ≤ a.length ∧ a.length ≤ 255 ∧ 1 ≤ (a.getD 0 []).length ∧ (a.getD 0 []).length ≤ 255 ∧ ∀ r ∈ a, r.length = (a.getD 0 []).length) :=
  ⟨fun h => by obtain ⟨h1, h2, h3, h4, h5⟩ := h.sides; exact ⟨h1, h2, h3, h4, h5.2⟩, fun ⟨h1, h2, h3, h4, h5⟩ => ⟨_, _, h1, h2, h3, h4, rfl, h5⟩⟩
end Go.Proofs.Ytdmdcgcmappliaa.Mat
