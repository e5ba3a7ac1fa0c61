/-
  What befalls the disks of an array: the state behind it, bounds. No program in sight.
-/
import Derived.Test.YthkbbcdnmdjhdaaGreatArP
import Derived.Test.YthkbbcdnmdjhdaaGreatHt
import Derived.Test.YthkbbcdnmdjhdaaGreatD6
import Derived.Test.YthkbbcdnmdjhdaaGreatD7
/-! XHtP: What befalls the disks of an array: the state behind it, bounds. No program in sight. -/
namespace Go.Proofs.YthkbbcdnmdjhdaaGreat
open Go.RowKit Dk
set_option maxRecDepth 100000
set_option maxHeartbeats 4000000

namespace Dk
theorem begins_z (z : Option FS) (d : DS) (ps : List Path) : (begins z d ps).2.1 = (ticks z).2 := by
  unfold begins
  repeat (first | rfl | split)
theorem writes_z (z : Option FS) (d : DS) (p : Path) (b : List UInt8) : (writes z d p b).2.1 = (ticks z).2 := by
  have h := begins_z z d [p]
  unfold writes
  repeat (first | exact h | split)
theorem syncs_z (z : Option FS) (d : DS) (p : Path) : (syncs z d p).2.1 = (ticks z).2 := by
  have h := begins_z z d [p]
  unfold syncs
  repeat (first | exact h | split)
theorem renames_z (z : Option FS) (d : DS) (p q : Path) : (renames z d p q).2.1 = (ticks z).2 := by
  have h := begins_z z d [p, q]
  unfold renames
  repeat (first | exact h | split)
theorem deletes_z (z : Option FS) (d : DS) (p : Path) : (deletes z d p).2.1 = (ticks z).2 := by
  have h := begins_z z d [p]
  unfold deletes
  repeat (first | exact h | split)
theorem ticks_al (z : FS) : ∃ z', (ticks (some z)).2 = some z' ∧ z'.ops ≤ z.ops + 1 := by
  unfold ticks; simp only
  by_cases hb : z.blown = true
  · rw [if_pos hb]; exact ⟨z, rfl, Nat.le_succ _⟩
  · rw [if_neg hb]; exact ⟨_, rfl, Nat.le_refl _⟩
theorem stepB_z (z : Option FS) (d : DS) (x : Deed) : (stepB z d x).1 = (ticks z).2 := by
  unfold stepB
  repeat (first | exact begins_z .. | exact writes_z .. | exact syncs_z .. | exact renames_z .. | exact deletes_z .. | split)
theorem stepB_snd {d : DS} (h : Snd d) (z : Option FS) (x : Deed) : Snd (stepB z d x).2 := by
  unfold stepB
  repeat (first | exact h.begins .. | exact h.writes .. | exact h.syncs .. | exact h.renames .. | exact h.deletes .. | split)
theorem stepC_snd {d : DS} (h : Snd d) (z : FS) (x : Deed) : Snd (stepC z d x).2 := by
  unfold stepC
  split
  · exact h.same rfl rfl
  split
  · exact h.same rfl rfl
  split
  · exact h.wipe
  split
  · exact h.flip _ _ _
  split
  · exact h.crash _
  split
  · exact h
  · exact h
theorem stepC_ops (z : FS) (d : DS) (x : Deed) : (stepC z d x).1.ops ≤ z.ops := by
  unfold stepC
  repeat (first | exact Nat.le_refl _ | exact Nat.zero_le _ | split)
/-- An array whose fuse there is. -/
def Alive (s : AS) : Prop := ∃ z, s.z = some z
theorem Alive.op {s : AS} (h : Alive s) (i : Nat) (F : Option FS → DS → Nat × Option FS × DS) (hF : ∀ z d, (F z d).2.1 = (ticks z).2) : Alive (s.op i F).2 := by
  obtain ⟨z, hz⟩ := h
  obtain ⟨z', h1, -⟩ := ticks_al z
  exact ⟨z', by show (F s.z _).2.1 = _; rw [hF, hz, h1]⟩
theorem Alive.save {s : AS} (h : Alive s) (i : Nat) (p : Path) (b : List UInt8) : Alive (s.save i p b).2 := by
  have h1 := h.op i (fun z d => writes z d tmpP b) fun z d => writes_z z d _ _
  have h2 := h1.op i (fun z d => syncs z d tmpP) fun z d => syncs_z z d _
  have h3 := h2.op i (fun z d => renames z d tmpP p) fun z d => renames_z z d _ _
  unfold AS.save
  split
  · exact h1
  split
  · exact h2
  · exact h3
theorem Alive.saveI {s : AS} (h : Alive s) (i : Int) (p : Path) (b : List UInt8) : Alive (s.saveI i p b).2 := by
  unfold AS.saveI
  split
  · exact h.save _ _ _
  · exact h
theorem Alive.voice {s : AS} (h : Alive s) (i : Nat) (w : List UInt8) : Alive (s.voice i w).2 := h.op i (fun z d => begins z d [fmtP]) fun z d => begins_z z d _
theorem Alive.voiceI {s : AS} (h : Alive s) (i : Int) (w : List UInt8) : Alive (s.voiceI i w).2 := by
  unfold AS.voiceI
  split
  · exact h.voice _ _
  · exact h
theorem Alive.voices {s : AS} (h : Alive s) (wd : Nat → List UInt8) : ∀ k, Alive (s.voices wd k).2
  | 0 => h
  | k + 1 => (h.voices wd k).voice k (wd k)
/-- A deed on one disk. -/
def AS.deed (s : AS) (i : Nat) (x : Deed) : AS :=
  if 0 ≤ x.act ∧ x.act ≤ 6 then ⟨(stepB s.z (s.ds.getD i dz) x).1, s.ds.set i (stepB s.z (s.ds.getD i dz) x).2⟩
  else match s.z with
  | some z => ⟨some (stepC z (s.ds.getD i dz) x).1, s.ds.set i (stepC z (s.ds.getD i dz) x).2⟩
  | none => s
def AS.does (s : AS) (x : Hit) : AS := if 0 ≤ x.at_ ∧ x.at_ < s.ds.length then s.deed x.at_.toNat x.d else s
theorem AS.deed_len (s : AS) (i : Nat) (x : Deed) : (s.deed i x).ds.length = s.ds.length := by
  unfold AS.deed
  split
  · exact List.length_set ..
  · split
    · exact List.length_set ..
    · rfl
theorem AS.does_len (s : AS) (x : Hit) : (s.does x).ds.length = s.ds.length := by
  unfold AS.does
  split
  · exact AS.deed_len ..
  · rfl
theorem ASnd.deed {s : AS} {n : Nat} (h : ASnd s n) (ha : Alive s) (i : Nat) (x : Deed) : ASnd (s.deed i x) (n + 1) ∧ Alive (s.deed i x) := by
  obtain ⟨z, hz⟩ := ha
  have ho := h.ops
  rw [hz] at ho
  unfold AS.deed
  split
  · obtain ⟨z', h1, h2⟩ := ticks_al z
    refine ⟨h.set i ?_ (stepB_snd (h.getD i) _ _), z', ?_⟩
    · show zops (stepB s.z _ x).1 ≤ _
      rw [stepB_z, hz, h1]
      exact Nat.le_trans h2 (Nat.succ_le_succ ho)
    · show (stepB s.z _ x).1 = _
      rw [stepB_z, hz, h1]
  · rw [hz]
    refine ⟨h.set i ?_ (stepC_snd (h.getD i) _ _), _, rfl⟩
    exact Nat.le_trans (stepC_ops z _ x) (Nat.le_succ_of_le ho)
theorem ASnd.does {s : AS} {n : Nat} (h : ASnd s n) (ha : Alive s) (x : Hit) : ASnd (s.does x) (n + 1) ∧ Alive (s.does x) := by
  unfold AS.does
  split
  · exact h.deed ha _ _
  · exact ⟨h.mono (by omega), ha⟩
/-- What ArrayPlays does. -/
def AS.hit (s : AS) (wd : Nat → List UInt8) (x : Hit) : AS :=
  if x.d.act = 13 then (s.saveI x.at_ fmtP (wd x.at_.toNat)).2
  else if x.d.act = 14 then (s.voiceI x.at_ (wd x.at_.toNat)).2
  else if x.d.act = 15 then (s.saveI x.at_ x.d.a x.d.data).2
  else if x.d.act = 16 then (s.voices wd s.ds.length).2
  else s.does x
theorem AS.hit_len (s : AS) (wd : Nat → List UInt8) (x : Hit) : (s.hit wd x).ds.length = s.ds.length := by
  unfold AS.hit
  split
  · exact AS.saveI_len ..
  split
  · exact AS.voiceI_len ..
  split
  · exact AS.saveI_len ..
  split
  · exact AS.voices_len ..
  · exact AS.does_len ..
theorem ASnd.hit {s : AS} {n : Nat} (h : ASnd s n) (ha : Alive s) (wd : Nat → List UInt8) (x : Hit) : ASnd (s.hit wd x) (n + 300) ∧ Alive (s.hit wd x) := by
  unfold AS.hit
  split
  · exact ⟨(h.saveI _ _ _).mono (by omega), ha.saveI _ _ _⟩
  split
  · exact ⟨(h.voiceI _ _).mono (by omega), ha.voiceI _ _⟩
  split
  · exact ⟨(h.saveI _ _ _).mono (by omega), ha.saveI _ _ _⟩
  split
  · have := h.len
    exact ⟨(h.voices _ _).mono (by omega), ha.voices _ _⟩
  · exact ⟨(h.does ha x).1.mono (by omega), (h.does ha x).2⟩
end Dk
end Go.Proofs.YthkbbcdnmdjhdaaGreat
