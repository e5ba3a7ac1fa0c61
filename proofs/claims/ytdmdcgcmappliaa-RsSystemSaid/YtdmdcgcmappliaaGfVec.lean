/-
  Rows of bytes over the field, in plain Lean: a row to which a multiple of another is added.
-/
import Derived.Test.YtdmdcgcmappliaaGfPure
namespace Go.Proofs.Ytdmdcgcmappliaa.Gf

def g8 (x y : UInt8) : UInt8 := UInt8.ofNat (gmul x.toNat y.toNat)
theorem u8lt (x : UInt8) : x.toNat < 256 := x.toNat_lt
theorem g8_toNat (x y : UInt8) : (g8 x y).toNat = gmul x.toNat y.toNat := by
  unfold g8
  rw [UInt8.toNat_ofNat']
  exact Nat.mod_eq_of_lt (gmul_lt _ _ (u8lt x))
/-- d, to which c times s is added. -/
def mad : List UInt8 → List UInt8 → UInt8 → List UInt8
  | [], _, _ => []
  | x :: d, [], _ => x :: d
  | x :: d, y :: s, c => (x ^^^ g8 y c) :: mad d s c
theorem mad_nil (d : List UInt8) (c : UInt8) : mad d [] c = d := by cases d <;> rfl
theorem mad_length : ∀ (d s : List UInt8) (c : UInt8), (mad d s c).length = d.length
  | [], _, _ => rfl
  | _ :: _, [], _ => rfl
  | _ :: d, _ :: s, c => by simp [mad, mad_length d s c]
theorem mad_get : ∀ (d s : List UInt8) (c : UInt8) (i : Nat), (mad d s c)[i]? = match d[i]?, s[i]? with
    | some x, some y => some (x ^^^ g8 y c)
    | some x, none => some x
    | none, _ => none
  | [], _, _, _ => rfl
  | x :: d, [], c, i => by cases h : (x :: d)[i]? <;> simp [mad, h]
  | x :: d, y :: s, c, 0 => rfl
  | x :: d, y :: s, c, i + 1 => by simpa [mad] using mad_get d s c i
theorem mad_take (d s : List UInt8) (c : UInt8) (i : Nat) (hd : i < d.length) (hs : i < s.length) :
    (mad d (s.take i) c)[i]? = some d[i] ∧ (mad d (s.take i) c).set i (d[i] ^^^ g8 s[i] c) = mad d (s.take (i + 1)) c := by
  have h1 : (mad d (s.take i) c)[i]? = some d[i] := by
    rw [mad_get, List.getElem?_eq_getElem hd, List.getElem?_take_eq_none (Nat.le_refl _)]
  refine ⟨h1, List.ext_getElem? fun j => ?_⟩
  rw [List.getElem?_set, mad_length]
  by_cases e : i = j
  · subst e
    rw [if_pos rfl, if_pos hd, mad_get, List.getElem?_eq_getElem hd, List.getElem?_take_of_lt (by omega), List.getElem?_eq_getElem hs]
  · rw [if_neg e, mad_get, mad_get]
    by_cases l : j < i
    · rw [List.getElem?_take_of_lt l, List.getElem?_take_of_lt (by omega)]
    · rw [List.getElem?_take_eq_none (by omega), List.getElem?_take_eq_none (by omega)]
theorem mad_long (d s : List UInt8) (c : UInt8) (i : Nat) (h : d.length ≤ i ∨ s.length ≤ i) : mad d (s.take i) c = mad d s c := by
  apply List.ext_getElem?
  intro j
  rw [mad_get, mad_get]
  by_cases l : j < i
  · rw [List.getElem?_take_of_lt l]
  · rcases h with h | h
    · rw [List.getElem?_eq_none (by omega : d.length ≤ j)]
    · rw [List.take_of_length_le h]
end Go.Proofs.Ytdmdcgcmappliaa.Gf
