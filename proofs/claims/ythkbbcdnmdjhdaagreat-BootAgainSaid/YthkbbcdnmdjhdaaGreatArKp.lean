/-
  ArraySaves, the plain law: what a disk holds behind a save that was broken off.
-/
import Derived.Test.YthkbbcdnmdjhdaaGreatArP
/-! XArKp: ArraySaves, the plain law: what a disk holds behind a save that was broken off. -/
namespace Go.Proofs.YthkbbcdnmdjhdaaGreat
open Go.RowKit
namespace Dk
def xP : Path := [120]
/-- Something befalls disk i alone. -/
def AS.on (s : AS) (i : Nat) (F : DS → DS) : AS := ⟨s.z, s.ds.set i (F (s.ds.getD i dz))⟩
theorem AS.on_len (s : AS) (i : Nat) (F : DS → DS) : (s.on i F).ds.length = s.ds.length := List.length_set ..
theorem ASnd.on {s : AS} {n : Nat} (h : ASnd s n) (i : Nat) (F : DS → DS) (hF : ∀ d, Snd d → Snd (F d)) : ASnd (s.on i F) n := h.set i h.ops (hF _ (h.getD i))
theorem ASnd.fuse {s : AS} {n m : Nat} (h : ASnd s n) (z : Option FS) (hz : zops z ≤ m) : ASnd ⟨z, s.ds⟩ m := ⟨h.ds, hz, h.len⟩
def sv0 : AS := ⟨some ⟨0, 0, false⟩, [⟨10000, false, 0, []⟩, ⟨10000, false, 0, []⟩]⟩
def sv1 (old : List UInt8) : AS := ⟨some ⟨0, 3, false⟩, [⟨10000, false, 0, [(xP, ⟨old, true⟩)]⟩, ⟨10000, false, 0, []⟩]⟩
theorem okx : okP xP = true := by decide
theorem okt : okP tmpP = true := by decide
theorem xt : (xP = tmpP) = False := eq_false (by decide)
theorem tx : (tmpP = xP) = False := eq_false (by decide)
theorem bxt : bytesBefore xP tmpP = false := by decide
theorem btx : bytesBefore tmpP xP = true := by decide
attribute [local simp] AS.save AS.op sv0 sv1 writes syncs renames opens begins ticks okx okt xt tx bxt btx put ins del get olen Dk.tot in
theorem sv1_eq (old : List UInt8) (h : old.length ≤ 2000) : sv0.save 0 xP old = (0, sv1 old) := by
  have h1 : ¬ (262144 < old.length) := by omega
  have h2 : ¬ (10000 < old.length) := by omega
  simp [*]
attribute [local simp] AS.save AS.op sv1 writes syncs renames opens begins ticks okx okt xt tx bxt btx put ins del get olen Dk.tot in
/-- What is left of a save whose fuse is k. -/
theorem sv2_eq (old now : List UInt8) (h : old.length ≤ 2000) (h2 : now.length ≤ 2000) (k : Nat) (hk : k < 6) :
    ∃ fs z r d1, (AS.mk (some ⟨k, 0, false⟩) (sv1 old).ds).save 0 xP now = (r, ⟨some z, [⟨10000, false, 0, fs⟩, d1]⟩) ∧
      ∃ f, get xP fs = some f ∧ f.sure = true ∧ ((r = 0 ∧ f.b = now) ∨ (r = 20 ∧ (f.b = old ∨ f.b = now))) := by
  have h3 : ¬ (262144 < now.length) := by omega
  have h4 : ¬ (10000 < old.length + now.length) := by omega
  have h5 : ¬ (10000 < now.length + old.length) := by omega
  have hc : k = 0 ∨ k = 1 ∨ k = 2 ∨ k = 3 ∨ k = 4 ∨ k = 5 := by omega
  rcases hc with rfl | rfl | rfl | rfl | rfl | rfl
  · exact ⟨[(xP, ⟨now, true⟩)], ⟨0, 3, false⟩, 0, ⟨10000, false, 0, []⟩, by
      simp [*], by simp⟩
  · exact ⟨[(tmpP, ⟨now, false⟩), (xP, ⟨old, true⟩)], ⟨1, 1, true⟩, 20, ⟨10000, false, 0, []⟩, by
      simp [*], by simp⟩
  · exact ⟨[(tmpP, ⟨now, true⟩), (xP, ⟨old, true⟩)], ⟨2, 2, true⟩, 20, ⟨10000, false, 0, []⟩, by
      simp [*], by simp⟩
  · exact ⟨[(xP, ⟨now, true⟩)], ⟨3, 3, true⟩, 0, ⟨10000, false, 0, []⟩, by
      simp [*], by simp⟩
  · exact ⟨[(xP, ⟨now, true⟩)], ⟨4, 3, false⟩, 0, ⟨10000, false, 0, []⟩, by
      simp [*], by simp⟩
  · exact ⟨[(xP, ⟨now, true⟩)], ⟨5, 3, false⟩, 0, ⟨10000, false, 0, []⟩, by
      simp [*], by simp⟩
theorem crash_get (k : Int) (d : DS) (p : Path) (f : Fil) (h : get p d.fs = some f) (hs : f.sure = true) : get p (d.crash k).fs = some f := by
  show get p (mapv (cutf k.toNat) d.fs) = _
  rw [get_mapv, h]
  show some (cutf k.toNat f) = _
  unfold cutf
  rw [if_pos hs]
theorem on_crash (s : AS) (i : Nat) (k : Int) (p : Path) (f : Fil) (h : get p (s.ds.getD 0 dz).fs = some f) (hs : f.sure = true) : get p ((s.on i (DS.crash k)).ds.getD 0 dz).fs = some f := by
  obtain ⟨z, ds⟩ := s
  cases ds with
  | nil => exact h
  | cons d ds =>
    cases i with
    | zero => exact crash_get k d p f h hs
    | succ i => exact h
end Dk
end Go.Proofs.YthkbbcdnmdjhdaaGreat
