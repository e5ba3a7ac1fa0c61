/-
  Disks with one fuse, as an array uses them: what is saved, read, which voices there are; what stays bounded. No program in sight.
  Many things side by side, one of them taken out and put back; many disks with one fuse; what is held and never changes. No statement about the program.
-/
import Derived.Test.YthkbbcdnmdjhdaaGreatD7
/-! XArP: Disks with one fuse, as an array uses them: what is saved, read, which voices there are; what stays bounded. No program in sight. -/
namespace Go.Proofs.YthkbbcdnmdjhdaaGreat
open Go.RowKit
namespace Dk

/-- A disk that is sound: files by rising paths, in their bounds. -/
structure Snd (d : DS) : Prop where
  up : Up d.fs
  len : d.fs.length ≤ 4096
  tot : Dk.tot d.fs ≤ d.most
  most : d.most ≤ 4194304
theorem Snd.bytes {d : DS} (h : Snd d) : Dk.tot d.fs ≤ 4194304 := Nat.le_trans h.tot h.most
theorem Snd.new (n : Int) : Snd ⟨mostOf n, false, 0, []⟩ := ⟨Up.nil, Nat.zero_le _, Nat.zero_le _, by
  show mostOf n ≤ 4194304
  unfold mostOf
  split <;> omega⟩
theorem Snd.same {d d' : DS} (h : Snd d) (e : d'.fs = d.fs) (m : d'.most = d.most) : Snd d' := ⟨e ▸ h.up, e ▸ h.len, by rw [e, m]; exact h.tot, m ▸ h.most⟩
theorem Snd.begins {d : DS} (h : Snd d) (z : Option FS) (ps : List Path) : Snd (begins z d ps).2.2 := h.same (begins_fs z d ps) (begins_most z d ps)
theorem Snd.keep {d d' : DS} (h : Snd d) (m : d'.most = d.most) (hu : Up d'.fs) (h1 : d'.fs.length ≤ d.fs.length) (h2 : Dk.tot d'.fs ≤ Dk.tot d.fs) : Snd d' :=
  ⟨hu, Nat.le_trans h1 h.len, by rw [m]; exact Nat.le_trans h2 h.tot, m ▸ h.most⟩
theorem Snd.turn {d d' : DS} (h : Snd d) (m : d'.most = d.most) {p : Path} {f g : Fil} (hg : get p d.fs = some g) (hl : f.b.length ≤ g.b.length) (e : d'.fs = put p f d.fs) : Snd d' := by
  have h1 := tot_put h.up p f
  have h2 := put_length h.up p f
  rw [hg] at h2
  have : olen p d.fs = g.b.length := by unfold olen; rw [hg]
  refine h.keep m (e ▸ put_up h.up) ?_ ?_
  · rw [e, h2]; exact Nat.le_refl _
  · rw [e]; omega
theorem Snd.del {d d' : DS} (h : Snd d) (m : d'.most = d.most) {p : Path} (e : d'.fs = del p d.fs) : Snd d' := by
  have h1 := tot_del h.up p
  have h2 := del_length h.up p
  exact h.keep m (e ▸ del_up h.up p) (by rw [e]; omega) (by rw [e]; omega)
theorem Snd.move {d d' : DS} (h : Snd d) (m : d'.most = d.most) {p q : Path} (hpq : p ≠ q) {f : Fil} (hf : get p d.fs = some f) (e : d'.fs = Dk.del p (put q f d.fs)) : Snd d' := by
  have h1 := tot_put h.up q f
  have h2 := put_length h.up q f
  have hu := put_up (p := q) (x := f) h.up
  have h3 := tot_del hu p
  have h4 := del_length hu p
  have hg : get p (put q f d.fs) = some f := by rw [get_put h.up, if_neg (fun e => hpq e.symm), hf]
  have h5 : olen p (put q f d.fs) = f.b.length := by unfold olen; rw [hg]
  rw [hg] at h4
  simp only [Option.isSome_some, if_true] at h4
  refine h.keep m (e ▸ del_up hu p) ?_ ?_
  · rw [e]
    have : (put q f d.fs).length ≤ d.fs.length + 1 := by rw [h2]; split <;> omega
    omega
  · rw [e]; omega
theorem Snd.writes {d : DS} (h : Snd d) (z : Option FS) (p : Path) (b : List UInt8) : Snd (writes z d p b).2.2 := by
  unfold Dk.writes
  split
  · exact h.begins _ _
  split
  · exact h.begins _ _
  obtain ⟨mn, hmn⟩ : ∃ mn, (if (get p d.fs).isSome then d.fs.length else d.fs.length + 1) = mn := ⟨_, rfl⟩
  rw [hmn]
  split
  · exact h.begins _ _
  rename_i hn
  have h1 := tot_put h.up p ⟨b, false⟩
  have h2 := put_length h.up p (⟨b, false⟩ : Fil)
  rw [hmn] at h2
  have hm := begins_most z d [p]
  have h3 : (⟨b, false⟩ : Fil).b.length = b.length := rfl
  exact ⟨put_up h.up, by show (put p _ d.fs).length ≤ _; omega, by show Dk.tot (put p _ d.fs) ≤ (Dk.begins z d [p]).2.2.most; rw [hm]; omega, by show (Dk.begins z d [p]).2.2.most ≤ _; rw [hm]; exact h.most⟩
theorem Snd.syncs {d : DS} (h : Snd d) (z : Option FS) (p : Path) : Snd (syncs z d p).2.2 := by
  unfold Dk.syncs
  split
  · rename_i h0
    obtain ⟨-, f, hg⟩ := opens_zero h0
    rw [hg]
    exact h.turn (d' := { (Dk.begins z d [p]).2.2 with fs := put p ⟨f.b, true⟩ d.fs }) (f := ⟨f.b, true⟩) (begins_most z d [p]) hg (Nat.le_refl _) rfl
  · exact h.begins _ _
theorem Snd.renames {d : DS} (h : Snd d) (z : Option FS) (p q : Path) : Snd (renames z d p q).2.2 := by
  unfold Dk.renames
  split
  · rename_i h0
    split
    · exact h.begins _ _
    · rename_i hpq
      obtain ⟨-, f, hg⟩ := opens_zero h0
      rw [hg]
      exact h.move (d' := { (Dk.begins z d [p, q]).2.2 with fs := Dk.del p (put q f d.fs) }) (begins_most z d [p, q]) hpq hg rfl
  · exact h.begins _ _
theorem Snd.deletes {d : DS} (h : Snd d) (z : Option FS) (p : Path) : Snd (deletes z d p).2.2 := by
  unfold Dk.deletes
  split
  · exact h.del (d' := { (Dk.begins z d [p]).2.2 with fs := Dk.del p d.fs }) (begins_most z d [p]) rfl
  · exact h.begins _ _
theorem Snd.flip {d : DS} (h : Snd d) (p : Path) (a : Int) (m : Nat) : Snd (dflip p a m d) := by
  unfold dflip
  cases hg : get p d.fs with
  | none => exact h
  | some f =>
    show Snd (if _ then _ else _)
    split
    · exact h.turn rfl hg (by rw [flipl_length]; exact Nat.le_refl _) rfl
    · exact h
theorem tot_cutf (k : Nat) : ∀ l : L Fil, Dk.tot (mapv (cutf k) l) ≤ Dk.tot l
  | [] => Nat.le_refl _
  | e :: l => by
    show Dk.tot ((e.1, cutf k e.2) :: mapv (cutf k) l) ≤ _
    rw [tot_cons, tot_cons]
    have := tot_cutf k l
    have : (cutf k e.2).b.length ≤ e.2.b.length := by
      unfold cutf
      split
      · exact Nat.le_refl _
      · show (e.2.b.take _).length ≤ _
        rw [List.length_take]; exact Nat.min_le_right _ _
    show (cutf k e.2).b.length + _ ≤ _
    omega
theorem Snd.crash {d : DS} (h : Snd d) (k : Int) : Snd (d.crash k) := h.keep rfl (h.up.mapv _) (Nat.le_of_eq (mapv_length _ _)) (tot_cutf _ _)
theorem Snd.wipe {d : DS} (h : Snd d) : Snd { d with fs := [] } := h.keep rfl Up.nil (Nat.zero_le _) (Nat.zero_le _)

/-! how many operations there were -/
theorem ticks_ops (z : Option FS) : zops (ticks z).2 ≤ zops z + 1 := by
  unfold ticks
  cases z with
  | none => exact Nat.zero_le _
  | some z =>
    show zops (if _ then _ else _ : Bool × Option FS).2 ≤ _
    split
    · exact Nat.le_succ _
    · exact Nat.le_refl _
theorem begins_ops (z : Option FS) (d : DS) (ps : List Path) : zops (begins z d ps).2.1 ≤ zops z + 1 := by
  have h := ticks_ops z
  unfold Dk.begins
  repeat (first | exact h | split)
theorem writes_ops (z : Option FS) (d : DS) (p : Path) (b : List UInt8) : zops (writes z d p b).2.1 ≤ zops z + 1 := by
  have h := begins_ops z d [p]
  unfold Dk.writes
  repeat (first | exact h | split)
theorem syncs_ops (z : Option FS) (d : DS) (p : Path) : zops (syncs z d p).2.1 ≤ zops z + 1 := by
  have h := begins_ops z d [p]
  unfold Dk.syncs
  repeat (first | exact h | split)
theorem renames_ops (z : Option FS) (d : DS) (p q : Path) : zops (renames z d p q).2.1 ≤ zops z + 1 := by
  have h := begins_ops z d [p, q]
  unfold Dk.renames
  repeat (first | exact h | split)
theorem deletes_ops (z : Option FS) (d : DS) (p : Path) : zops (deletes z d p).2.1 ≤ zops z + 1 := by
  have h := begins_ops z d [p]
  unfold Dk.deletes
  repeat (first | exact h | split)

/-! ### an array's disks -/
/-- Disks with one fuse. -/
structure AS where
  z : Option FS
  ds : List DS
def dz : DS := ⟨0, false, 0, []⟩
/-- An operation on one of the disks. -/
def AS.op (s : AS) (i : Nat) (f : Option FS → DS → Nat × Option FS × DS) : Nat × AS :=
  ((f s.z (s.ds.getD i dz)).1, ⟨(f s.z (s.ds.getD i dz)).2.1, s.ds.set i (f s.z (s.ds.getD i dz)).2.2⟩)
structure ASnd (s : AS) (n : Nat) : Prop where
  ds : ∀ d ∈ s.ds, Snd d
  ops : zops s.z ≤ n
  len : s.ds.length ≤ 255
theorem Snd.dz : Snd Dk.dz := ⟨Up.nil, Nat.zero_le _, Nat.zero_le _, Nat.zero_le _⟩
theorem ASnd.getD {s : AS} {n : Nat} (h : ASnd s n) (i : Nat) : Snd (s.ds.getD i dz) := by
  rw [List.getD_eq_getElem?_getD]
  cases e : s.ds[i]? with
  | none => exact Snd.dz
  | some d => exact h.ds d (List.mem_of_getElem? e)
theorem ASnd.mono {s : AS} {n m : Nat} (h : ASnd s n) (hm : n ≤ m) : ASnd s m := ⟨h.ds, Nat.le_trans h.ops hm, h.len⟩
theorem ASnd.set {s : AS} {n m : Nat} (h : ASnd s n) (i : Nat) {z : Option FS} {d : DS} (hz : zops z ≤ m) (hd : Snd d) : ASnd ⟨z, s.ds.set i d⟩ m :=
  ⟨fun x hx => by
    rcases List.mem_or_eq_of_mem_set hx with hx | rfl
    · exact h.ds x hx
    · exact hd, hz, by show (s.ds.set i d).length ≤ _; rw [List.length_set]; exact h.len⟩
theorem AS.op_len (s : AS) (i : Nat) (f : Option FS → DS → Nat × Option FS × DS) : (s.op i f).2.ds.length = s.ds.length := List.length_set ..

def tmpP : Path := [116, 109, 112]
def fmtP : Path := [102, 111, 114, 109, 97, 116]
/-- A file saved on disk i: written, synced, renamed. -/
def AS.save (s : AS) (i : Nat) (p : Path) (b : List UInt8) : Nat × AS :=
  if (s.op i fun z d => writes z d tmpP b).1 ≠ 0 then s.op i fun z d => writes z d tmpP b
  else if ((s.op i fun z d => writes z d tmpP b).2.op i fun z d => syncs z d tmpP).1 ≠ 0 then (s.op i fun z d => writes z d tmpP b).2.op i fun z d => syncs z d tmpP
  else ((s.op i fun z d => writes z d tmpP b).2.op i fun z d => syncs z d tmpP).2.op i fun z d => renames z d tmpP p
/-- The same with whatever number. -/
def AS.saveI (s : AS) (i : Int) (p : Path) (b : List UInt8) : Nat × AS := if 0 ≤ i ∧ i < s.ds.length then s.save i.toNat p b else (1, s)
/-- A file read: the number, the bytes. -/
def AS.read (s : AS) (i : Nat) (p : Path) : (Nat × List UInt8) × AS :=
  ((opens s.z (s.ds.getD i dz) p [], readb s.z (s.ds.getD i dz) p), (s.op i fun z d => begins z d [p]).2)
/-- Has disk i a voice, where w is what its format must be? -/
def AS.voice (s : AS) (i : Nat) (w : List UInt8) : (Bool × Nat) × AS :=
  (if (s.read i fmtP).1.1 = 0 then ((s.read i fmtP).1.2 == w, 0) else if (s.read i fmtP).1.1 = 6 then (false, 0) else (false, (s.read i fmtP).1.1), (s.read i fmtP).2)
def AS.voiceI (s : AS) (i : Int) (w : List UInt8) : (Bool × Nat) × AS := if 0 ≤ i ∧ i < s.ds.length then s.voice i.toNat w else ((false, 1), s)
/-- The voices of the first n disks. -/
def AS.voices (s : AS) (wd : Nat → List UInt8) : Nat → List Nat × AS
  | 0 => ([], s)
  | n + 1 => (if ((s.voices wd n).2.voice n (wd n)).1.1 = true then (s.voices wd n).1 ++ [n] else (s.voices wd n).1, ((s.voices wd n).2.voice n (wd n)).2)

theorem ASnd.write {s : AS} {n : Nat} (h : ASnd s n) (i : Nat) (p : Path) (b : List UInt8) : ASnd (s.op i fun z d => writes z d p b).2 (n + 1) :=
  h.set i (Nat.le_trans (writes_ops _ _ _ _) (Nat.succ_le_succ h.ops)) ((h.getD i).writes _ _ _)
theorem ASnd.sync {s : AS} {n : Nat} (h : ASnd s n) (i : Nat) (p : Path) : ASnd (s.op i fun z d => syncs z d p).2 (n + 1) :=
  h.set i (Nat.le_trans (syncs_ops _ _ _) (Nat.succ_le_succ h.ops)) ((h.getD i).syncs _ _)
theorem ASnd.rename {s : AS} {n : Nat} (h : ASnd s n) (i : Nat) (p q : Path) : ASnd (s.op i fun z d => renames z d p q).2 (n + 1) :=
  h.set i (Nat.le_trans (renames_ops _ _ _ _) (Nat.succ_le_succ h.ops)) ((h.getD i).renames _ _ _)
theorem ASnd.delete {s : AS} {n : Nat} (h : ASnd s n) (i : Nat) (p : Path) : ASnd (s.op i fun z d => deletes z d p).2 (n + 1) :=
  h.set i (Nat.le_trans (deletes_ops _ _ _) (Nat.succ_le_succ h.ops)) ((h.getD i).deletes _ _)
theorem ASnd.begin {s : AS} {n : Nat} (h : ASnd s n) (i : Nat) (ps : List Path) : ASnd (s.op i fun z d => begins z d ps).2 (n + 1) :=
  h.set i (Nat.le_trans (begins_ops _ _ _) (Nat.succ_le_succ h.ops)) ((h.getD i).begins _ _)
theorem ASnd.save {s : AS} {n : Nat} (h : ASnd s n) (i : Nat) (p : Path) (b : List UInt8) : ASnd (s.save i p b).2 (n + 3) := by
  have h1 := h.write i tmpP b
  have h2 := h1.sync i tmpP
  have h3 := h2.rename i tmpP p
  unfold AS.save
  split
  · exact h1.mono (by omega)
  split
  · exact h2.mono (by omega)
  · exact h3
theorem ASnd.saveI {s : AS} {n : Nat} (h : ASnd s n) (i : Int) (p : Path) (b : List UInt8) : ASnd (s.saveI i p b).2 (n + 3) := by
  unfold AS.saveI
  split
  · exact h.save _ _ _
  · exact h.mono (by omega)
theorem ASnd.read {s : AS} {n : Nat} (h : ASnd s n) (i : Nat) (p : Path) : ASnd (s.read i p).2 (n + 1) := h.begin i [p]
theorem ASnd.voice {s : AS} {n : Nat} (h : ASnd s n) (i : Nat) (w : List UInt8) : ASnd (s.voice i w).2 (n + 1) := h.read i fmtP
theorem ASnd.voiceI {s : AS} {n : Nat} (h : ASnd s n) (i : Int) (w : List UInt8) : ASnd (s.voiceI i w).2 (n + 1) := by
  unfold AS.voiceI
  split
  · exact h.voice _ _
  · exact h.mono (by omega)
theorem ASnd.voices {s : AS} {n : Nat} (h : ASnd s n) (wd : Nat → List UInt8) : ∀ k, ASnd (s.voices wd k).2 (n + k)
  | 0 => h
  | k + 1 => (h.voices wd k).voice k (wd k)
theorem AS.save_len (s : AS) (i : Nat) (p : Path) (b : List UInt8) : (s.save i p b).2.ds.length = s.ds.length := by
  unfold AS.save
  split
  · exact AS.op_len ..
  split
  · rw [AS.op_len, AS.op_len]
  · rw [AS.op_len, AS.op_len, AS.op_len]
theorem AS.saveI_len (s : AS) (i : Int) (p : Path) (b : List UInt8) : (s.saveI i p b).2.ds.length = s.ds.length := by
  unfold AS.saveI
  split
  · exact AS.save_len ..
  · rfl
theorem AS.voice_len (s : AS) (i : Nat) (w : List UInt8) : (s.voice i w).2.ds.length = s.ds.length := AS.op_len s i fun z d => begins z d [fmtP]
theorem AS.voiceI_len (s : AS) (i : Int) (w : List UInt8) : (s.voiceI i w).2.ds.length = s.ds.length := by
  unfold AS.voiceI
  split
  · exact AS.voice_len ..
  · rfl
theorem AS.voices_len (s : AS) (wd : Nat → List UInt8) : ∀ k, (s.voices wd k).2.ds.length = s.ds.length
  | 0 => rfl
  | k + 1 => (AS.voice_len (s.voices wd k).2 k (wd k)).trans (s.voices_len wd k)
theorem AS.voices_lt (s : AS) (wd : Nat → List UInt8) : ∀ k, ∀ i ∈ (s.voices wd k).1, i < k
  | 0, _, h => by cases h
  | k + 1, i, h => by
    have ih := s.voices_lt wd k
    change i ∈ (if _ then _ else _) at h
    split at h
    · rcases List.mem_append.1 h with h | h
      · exact Nat.lt_succ_of_lt (ih i h)
      · rw [List.mem_singleton.1 h]; exact Nat.lt_succ_self _
    · exact Nat.lt_succ_of_lt (ih i h)
theorem AS.voices_num (s : AS) (wd : Nat → List UInt8) : ∀ k, (s.voices wd k).1.length ≤ k
  | 0 => Nat.le_refl _
  | k + 1 => by
    have ih := s.voices_num wd k
    show (if _ then _ else _ : List Nat).length ≤ _
    split
    · rw [List.length_append]; exact Nat.succ_le_succ ih
    · exact Nat.le_succ_of_le ih
end Dk
end Go.Proofs.YthkbbcdnmdjhdaaGreat
/-! XSepB: Many things side by side, one of them taken out and put back; many disks with one fuse; what is held and never changes. No statement about the program. -/
namespace Go.Proofs.YthkbbcdnmdjhdaaGreat
open Go.RowKit Dk
set_option maxRecDepth 100000
set_option maxHeartbeats 4000000

def bigT : List Thing → Thing
  | [] => emp
  | X :: l => X.star (bigT l)
theorem bigT_pick : ∀ {l : List Thing} {i : Nat} {X : Thing}, l[i]? = some X → (bigT l).Ent (X.star (bigT (l.eraseIdx i)))
  | [], _, _, h => by simp at h
  | _ :: _, 0, _, h => by
    simp at h
    subst h
    exact Thing.Ent.refl _
  | _ :: _, _ + 1, _, h => by
    simp at h
    exact (Thing.Ent.star (.refl _) (bigT_pick h)).trans .swap
theorem bigT_put : ∀ {l : List Thing} {i : Nat} {X : Thing}, i < l.length → (X.star (bigT (l.eraseIdx i))).Ent (bigT (l.set i X))
  | [], _, _, h => by simp at h
  | _ :: _, 0, _, _ => Thing.Ent.refl _
  | _ :: _, _ + 1, _, h => by
    simp at h
    exact Thing.Ent.swap.trans (.star (.refl _) (bigT_put h))
theorem bigT_app : ∀ {l : List Thing} {X : Thing}, (X.star (bigT l)).Ent (bigT (l ++ [X]))
  | [], _ => Thing.Ent.refl _
  | _ :: _, _ => Thing.Ent.swap.trans (.star (.refl _) bigT_app)

abbrev blankT : Thing := emp
theorem bigT_perm {l l' : List Thing} (h : l.Perm l') : (bigT l).Ent (bigT l') := by
  induction h with
  | nil => exact Thing.Ent.refl _
  | cons x _ ih => exact Thing.Ent.star (.refl _) ih
  | swap x y l => exact Thing.Ent.swap
  | trans _ _ h1 h2 => exact h1.trans h2
/-- The same things in another order: ix tells which comes where. -/
theorem bigT_ix (l : List Thing) (ix : List Nat) (hp : ix.Perm (List.range l.length)) : (bigT l).Ent (bigT (ix.map fun i => l.getD i emp)) := by
  have e : (List.range l.length).map (fun i => l.getD i emp) = l := by
    apply List.ext_getElem?
    intro i
    rw [List.getElem?_map]
    by_cases hi : i < l.length
    · rw [List.getElem?_range hi, List.getElem?_eq_getElem hi]
      simp [List.getD_eq_getElem?_getD, List.getElem?_eq_getElem hi]
    · rw [List.getElem?_eq_none (by simp; omega), List.getElem?_eq_none (by omega)]; rfl
  have h := bigT_perm (hp.symm.map fun i => l.getD i emp)
  rw [e] at h
  exact h
section
variable {w0 w : World} {l : List Thing} {X Y : Thing} {i j : Nat}
theorem Lab.ix (h : Lab w0 w (bigT l)) (ix : List Nat) (hp : ix.Perm (List.range l.length)) : Lab w0 w (bigT (ix.map fun i => l.getD i blankT)) := h.ent (bigT_ix l ix hp)
theorem Lab.addemp (h : Lab w0 w X) : Lab w0 w (blankT.star X) := h.emp.comm
/-- One of many to the front, and back; two. -/
theorem Lab.pk (h : Lab w0 w (bigT l)) (i : Nat) (hi : l[i]? = some X) : Lab w0 w (X.star (bigT (l.eraseIdx i))) := h.ent (bigT_pick hi)
theorem Lab.bk (h : Lab w0 w (X.star (bigT (l.eraseIdx i)))) (hi : i < l.length) : Lab w0 w (bigT (l.set i X)) := h.ent (bigT_put hi)
theorem Lab.pk2 (h : Lab w0 w (bigT l)) (i j : Nat) (hi : l[i]? = some X) (hj : (l.eraseIdx i)[j]? = some Y) : Lab w0 w (X.star (Y.star (bigT ((l.eraseIdx i).eraseIdx j)))) := (h.pk i hi).ent (.star (.refl _) (bigT_pick hj))
theorem Lab.bk2 (h : Lab w0 w (X.star (Y.star (bigT ((l.eraseIdx i).eraseIdx j))))) (hj : j < (l.eraseIdx i).length) : Lab w0 w (X.star (bigT ((l.eraseIdx i).set j Y))) := h.ent (.star (.refl _) (bigT_put hj))
/-- One cell of a row written. -/
theorem Lab.rset {b : Nat} {e : TypeId} {cs : Array Value} {Z : Thing} (h : Lab w0 w ((rowT b e cs).star Z)) (i : Nat) (u : Value) : Lab w0 (w.setCell ⟨b, i, none⟩ u) ((rowT b e (cs.setIfInBounds i u)).star Z) :=
  h.made fun T hT => by
    have hb : T b := (hT.2 b).2 rfl
    exact ⟨(Chg.refl T w).at b i (.inl hb) u, T, fun b hb => .inl hb, hT.1.set i u, hT.2⟩
/-- A new row. -/
theorem Lab.newrow {Z : Thing} (h : Lab w0 w Z) (e : TypeId) (cs : Array Value) : Lab w0 (w.alloc (.cells cs e)) ((rowT w.heap.size e cs).star Z) :=
  h.new ((Ext.refl w).alloc (Nat.le_refl _) _) (X := rowT w.heap.size e cs) (T := fun b => w.heap.size = b) ⟨Row.new w e cs, fun _ => Iff.rfl⟩ fun _ hb => Nat.le_of_eq hb
end
/-- Disks in memory at ss. -/
def simsT (fp : Option Nat) (ss : List Nat) (ds : List DS) : Thing := bigT (List.zipWith (fun s d => simT s fp d) ss ds)
def refsT (fp : Option Nat) (rs : List Nat) (ds : List DS) : Thing := bigT (List.zipWith (fun s d => refT s fp d) rs ds)
theorem zip_get {α β γ : Type} {f : α → β → γ} {xs : List α} {bs : List β} {i : Nat} {a : α} {b : β} (ha : xs[i]? = some a) (hb : bs[i]? = some b) : (List.zipWith f xs bs)[i]? = some (f a b) := by
  rw [List.getElem?_zipWith, ha, hb]
theorem zip_set {α β γ : Type} {f : α → β → γ} : ∀ {xs : List α} {bs : List β} {i : Nat} {a : α} (b : β), xs[i]? = some a → (List.zipWith f xs bs).set i (f a b) = List.zipWith f xs (bs.set i b)
  | [], _, i, _, _, h => by simp at h
  | _ :: _, [], _, _, _, _ => by simp
  | _ :: _, _ :: _, 0, _, _, h => by simp at h; subst h; rfl
  | _ :: xs, _ :: bs, i + 1, _, b, h => by
    simp at h
    show _ :: (List.zipWith f xs bs).set i _ = _ :: List.zipWith f xs (bs.set i b)
    rw [zip_set b h]
section
variable {w0 w w' : World} {Y Z X : Thing} {fp : Option Nat} {z z' : Option FS} {ss : List Nat} {ds : List DS} {i s : Nat} {d d' : DS}
theorem simsT.pick (hs : ss[i]? = some s) (hd : ds[i]? = some d) : (simsT fp ss ds).Ent ((simT s fp d).star (bigT ((List.zipWith (fun s d => simT s fp d) ss ds).eraseIdx i))) := bigT_pick (zip_get hs hd)
theorem simsT.put (hs : ss[i]? = some s) (hd : i < ds.length) : ((simT s fp d').star (bigT ((List.zipWith (fun s d => simT s fp d) ss ds).eraseIdx i))).Ent (simsT fp ss (ds.set i d')) := by
  have h := bigT_put (l := List.zipWith (fun s d => simT s fp d) ss ds) (i := i) (X := simT s fp d') (by
    rw [List.length_zipWith]
    have := (List.getElem?_eq_some_iff.1 hs).1
    omega)
  rwa [zip_set (f := fun s d => simT s fp d) d' hs] at h
theorem refsT.pick (hs : ss[i]? = some s) (hd : ds[i]? = some d) : (refsT fp ss ds).Ent ((refT s fp d).star (bigT ((List.zipWith (fun s d => refT s fp d) ss ds).eraseIdx i))) := bigT_pick (zip_get hs hd)
theorem refsT.put (hs : ss[i]? = some s) (hd : i < ds.length) : ((refT s fp d').star (bigT ((List.zipWith (fun s d => refT s fp d) ss ds).eraseIdx i))).Ent (refsT fp ss (ds.set i d')) := by
  have h := bigT_put (l := List.zipWith (fun s d => refT s fp d) ss ds) (i := i) (X := refT s fp d') (by
    rw [List.length_zipWith]
    have := (List.getElem?_eq_some_iff.1 hs).1
    omega)
  rwa [zip_set (f := fun s d => refT s fp d) d' hs] at h
theorem simsT.app (hl : ss.length = ds.length) : ((simT s fp d).star (simsT fp ss ds)).Ent (simsT fp (ss ++ [s]) (ds ++ [d])) := by
  have h := bigT_app (l := List.zipWith (fun s d => simT s fp d) ss ds) (X := simT s fp d)
  have e : List.zipWith (fun s d => simT s fp d) (ss ++ [s]) (ds ++ [d]) = List.zipWith (fun s d => simT s fp d) ss ds ++ [simT s fp d] := by
    rw [List.zipWith_append hl]; rfl
  unfold simsT
  rw [e]
  exact h
theorem refsT.app (hl : ss.length = ds.length) : ((refT s fp d).star (refsT fp ss ds)).Ent (refsT fp (ss ++ [s]) (ds ++ [d])) := by
  have h := bigT_app (l := List.zipWith (fun s d => refT s fp d) ss ds) (X := refT s fp d)
  have e : List.zipWith (fun s d => refT s fp d) (ss ++ [s]) (ds ++ [d]) = List.zipWith (fun s d => refT s fp d) ss ds ++ [refT s fp d] := by
    rw [List.zipWith_append hl]; rfl
  unfold refsT
  rw [e]
  exact h
/-- One disk of many, with the fuse: out, and back. -/
theorem Lab.out1 (h : Lab w0 w ((fuseT fp z).star ((simsT fp ss ds).star Y))) (hs : ss[i]? = some s) (hd : ds[i]? = some d) : Lab w0 w ((fuseT fp z).star ((simT s fp d).star ((bigT ((List.zipWith (fun s d => simT s fp d) ss ds).eraseIdx i)).star Y))) :=
  h.ent (.star (.refl _) ((Thing.Ent.star (simsT.pick hs hd) (.refl _)).trans .assoc))
theorem Lab.back1 (h : Lab w0 w ((fuseT fp z').star ((simT s fp d').star ((bigT ((List.zipWith (fun s d => simT s fp d) ss ds).eraseIdx i)).star Y)))) (hs : ss[i]? = some s) (hd : i < ds.length) : Lab w0 w ((fuseT fp z').star ((simsT fp ss (ds.set i d')).star Y)) :=
  h.ent (.star (.refl _) (Thing.Ent.assoc'.trans (.star (simsT.put hs hd) (.refl _))))
theorem Lab.rout1 (h : Lab w0 w ((rfuseT fp z).star ((refsT fp ss ds).star Y))) (hs : ss[i]? = some s) (hd : ds[i]? = some d) : Lab w0 w ((rfuseT fp z).star ((refT s fp d).star ((bigT ((List.zipWith (fun s d => refT s fp d) ss ds).eraseIdx i)).star Y))) :=
  h.ent (.star (.refl _) ((Thing.Ent.star (refsT.pick hs hd) (.refl _)).trans .assoc))
theorem Lab.rback1 (h : Lab w0 w ((rfuseT fp z').star ((refT s fp d').star ((bigT ((List.zipWith (fun s d => refT s fp d) ss ds).eraseIdx i)).star Y)))) (hs : ss[i]? = some s) (hd : i < ds.length) : Lab w0 w ((rfuseT fp z').star ((refsT fp ss (ds.set i d')).star Y)) :=
  h.ent (.star (.refl _) (Thing.Ent.assoc'.trans (.star (refsT.put hs hd) (.refl _))))
end
/-- What lies in the blocks from lo on and below hi, and hangs on them alone. -/
def heldT (lo hi : Nat) (P : World → Prop) (hP : ∀ w w', P w → (∀ b, lo ≤ b → b < hi → w'.heap[b]? = w.heap[b]?) → P w') : Thing :=
  ⟨fun w T => P w ∧ hi ≤ w.heap.size ∧ ∀ b, T b ↔ lo ≤ b ∧ b < hi, fun h b hb => Nat.lt_of_lt_of_le ((h.2.2 b).1 hb).2 h.2.1,
   fun h hc hn => ⟨hP _ _ h.1 fun b h1 h2 => hc.block b (Nat.lt_of_lt_of_le h2 h.2.1) (hn b ((h.2.2 b).2 ⟨h1, h2⟩)), Nat.le_trans h.2.1 hc.size, h.2.2⟩⟩
end Go.Proofs.YthkbbcdnmdjhdaaGreat
