/-
  Disks that are online and whole, with a fuse that does not blow: what a save, a delete, voices, Start make of them. No program in sight.
-/
import Derived.Test.YthkbbcdnmdjhdaaGreatHtP
import Derived.Test.YthkbbcdnmdjhdaaGreatBtV
import Derived.Test.YthkbbcdnmdjhdaaGreatArMp
/-! XGd: Disks that are online and whole, with a fuse that does not blow: what a save, a delete, voices, Start make of them. No program in sight. -/
namespace Go.Proofs.YthkbbcdnmdjhdaaGreat
open Go.RowKit
namespace Dk
/-- All disks are online and whole; the fuse has counted m. -/
structure Gd (s : AS) (m : Nat) : Prop where
  z : s.z = some ⟨0, m, false⟩
  ds : ∀ d ∈ s.ds, d.off = false ∧ d.bad = 0
theorem dz_gd : dz.off = false ∧ dz.bad = 0 := ⟨rfl, rfl⟩
theorem Gd.getD {s : AS} {m : Nat} (h : Gd s m) (i : Nat) : (s.ds.getD i dz).off = false ∧ (s.ds.getD i dz).bad = 0 := by
  rw [List.getD_eq_getElem?_getD]
  cases e : s.ds[i]? with
  | none => exact dz_gd
  | some d => exact h.ds d (List.mem_of_getElem? e)
theorem Gd.set {s : AS} {m k : Nat} (h : Gd s m) (i : Nat) {d : DS} (hd : d.off = false ∧ d.bad = 0) : Gd ⟨some ⟨0, k, false⟩, s.ds.set i d⟩ k :=
  ⟨rfl, fun x hx => by
    rcases List.mem_or_eq_of_mem_set hx with hx | rfl
    · exact h.ds x hx
    · exact hd⟩
theorem ticks_gd (m : Nat) : ticks (some ⟨0, m, false⟩) = (true, some ⟨0, m + 1, false⟩) := by simp [ticks]
theorem begins_gd (m : Nat) (d : DS) (ps : List Path) (h : d.off = false ∧ d.bad = 0) : begins (some ⟨0, m, false⟩) d ps = (if ps.all okP then 0 else 1, some ⟨0, m + 1, false⟩, d) := by
  unfold begins
  rw [ticks_gd, h.1, h.2]
  simp only [Bool.true_eq_false, if_false, Bool.false_eq_true, Nat.lt_irrefl]
  split <;> rfl
theorem writes_gd (m : Nat) (d : DS) (p : Path) (b : List UInt8) (h : d.off = false ∧ d.bad = 0) : ∃ r fs, writes (some ⟨0, m, false⟩) d p b = (r, some ⟨0, m + 1, false⟩, { d with fs := fs }) := by
  unfold writes
  rw [begins_gd m d [p] h]
  generalize (if [p].all okP = true then 0 else 1) = r0
  simp only
  by_cases h1 : r0 ≠ 0
  · rw [if_pos h1]; exact ⟨_, d.fs, rfl⟩
  rw [if_neg h1]
  by_cases h2 : 262144 < b.length
  · rw [if_pos h2]; exact ⟨_, d.fs, rfl⟩
  rw [if_neg h2]
  obtain ⟨mn, hmn⟩ : ∃ mn, (if (get p d.fs).isSome then d.fs.length else d.fs.length + 1) = mn := ⟨_, rfl⟩
  rw [hmn]
  by_cases h3 : d.most + olen p d.fs < tot d.fs + b.length ∨ 4096 < mn
  · rw [if_pos h3]; exact ⟨_, d.fs, rfl⟩
  · rw [if_neg h3]; exact ⟨_, _, rfl⟩
theorem opens_gd (m : Nat) (d : DS) (p : Path) (more : List Path) (h : d.off = false ∧ d.bad = 0) (hp : (p :: more).all okP = true) : opens (some ⟨0, m, false⟩) d p more = if (get p d.fs).isSome then 0 else 6 := by
  unfold opens
  rw [begins_gd m d _ h, if_pos hp, if_pos rfl]
theorem get_isNone {p : Path} {l : L Fil} (h : get p l = none) : ∀ e ∈ l, e.1 ≠ p := by
  intro e he h1
  unfold get at h
  rw [Option.map_eq_none_iff, List.find?_eq_none] at h
  have := h e he
  simp [h1] at this
theorem deletes_gd (m : Nat) (d : DS) (p : Path) (h : d.off = false ∧ d.bad = 0) (hp : okP p = true) : ∃ r, deletes (some ⟨0, m, false⟩) d p = (r, some ⟨0, m + 1, false⟩, { d with fs := del p d.fs }) := by
  unfold deletes
  rw [opens_gd m d p [] h (by simp [hp]), begins_gd m d [p] h]
  cases e : get p d.fs with
  | some f => exact ⟨0, by simp⟩
  | none => exact ⟨6, by simp [del_none (get_isNone e)]⟩
/-- What a save makes of the files. -/
def fsave (p : Path) (b : List UInt8) (fs : L Fil) : L Fil := del tmpP (put p ⟨b, true⟩ (put tmpP ⟨b, true⟩ (put tmpP ⟨b, false⟩ fs)))
theorem okT : okP tmpP = true := by decide
theorem save_gd {s : AS} {m i : Nat} {p : Path} {b : List UInt8} (h : Gd s m) (hi : i < s.ds.length) (hu : Up (s.ds.getD i dz).fs) (hr : tot (s.ds.getD i dz).fs + b.length ≤ (s.ds.getD i dz).most) (hl : (s.ds.getD i dz).fs.length < 4096) (hb : b.length ≤ 262144) (hp : okP p = true) (hne : p ≠ tmpP) :
    s.save i p b = (0, ⟨some ⟨0, m + 3, false⟩, s.ds.set i { s.ds.getD i dz with fs := fsave p b (s.ds.getD i dz).fs }⟩) := by
  obtain ⟨d, hd⟩ : ∃ d, s.ds.getD i dz = d := ⟨_, rfl⟩
  have hg := h.getD i
  rw [hd] at hg hu hr hl ⊢
  have hz := h.z
  have ho : olen tmpP d.fs ≤ tot d.fs := olen_le _ _
  have hw : writes (some ⟨0, m, false⟩) d tmpP b = (0, some ⟨0, m + 1, false⟩, { d with fs := put tmpP ⟨b, false⟩ d.fs }) := by
    unfold writes
    rw [begins_gd m d [tmpP] hg, show (if [tmpP].all okP = true then 0 else 1) = 0 from by decide, if_neg (by simp), if_neg (by omega), if_neg (by
      intro hc
      rcases hc with hc | hc
      · omega
      · split at hc <;> omega)]
  have h1 : s.op i (fun z d => writes z d tmpP b) = (0, ⟨some ⟨0, m + 1, false⟩, s.ds.set i { d with fs := put tmpP ⟨b, false⟩ d.fs }⟩) := by
    unfold AS.op
    rw [hd, hz]
    simp only [hw]
  have hs1 : ∀ x : DS, (s.ds.set i x).getD i dz = x := fun x => by rw [List.getD_eq_getElem?_getD, List.getElem?_set_self hi]; rfl
  have hss : ∀ x y : DS, (s.ds.set i x).set i y = s.ds.set i y := fun x y => List.set_set ..
  have g1 : get tmpP (put tmpP (⟨b, false⟩ : Fil) d.fs) = some ⟨b, false⟩ := by rw [get_put hu, if_pos rfl]
  have h2 : (⟨some ⟨0, m + 1, false⟩, s.ds.set i { d with fs := put tmpP ⟨b, false⟩ d.fs }⟩ : AS).op i (fun z d => syncs z d tmpP) = (0, ⟨some ⟨0, m + 1 + 1, false⟩, s.ds.set i { d with fs := put tmpP ⟨b, true⟩ (put tmpP ⟨b, false⟩ d.fs) }⟩) := by
    unfold AS.op
    simp only [hs1, hss]
    have e : syncs (some ⟨0, m + 1, false⟩) { d with fs := put tmpP ⟨b, false⟩ d.fs } tmpP = (0, some ⟨0, m + 1 + 1, false⟩, { d with fs := put tmpP ⟨b, true⟩ (put tmpP ⟨b, false⟩ d.fs) }) := by
      have o1 : opens (some ⟨0, m + 1, false⟩) { d with fs := put tmpP ⟨b, false⟩ d.fs } tmpP [] = 0 := by
        rw [opens_gd (m + 1) { d with fs := put tmpP ⟨b, false⟩ d.fs } tmpP [] hg (by decide)]
        simp only [g1, Option.isSome_some, if_true]
      have b1 := begins_gd (m + 1) { d with fs := put tmpP ⟨b, false⟩ d.fs } [tmpP] hg
      unfold syncs
      rw [if_pos o1, b1]
      simp only [g1]
    rw [e]
  have hu1 : Up (put tmpP (⟨b, false⟩ : Fil) d.fs) := put_up hu
  have g2 : get tmpP (put tmpP (⟨b, true⟩ : Fil) (put tmpP ⟨b, false⟩ d.fs)) = some ⟨b, true⟩ := by rw [get_put hu1, if_pos rfl]
  have h3 : (⟨some ⟨0, m + 1 + 1, false⟩, s.ds.set i { d with fs := put tmpP ⟨b, true⟩ (put tmpP ⟨b, false⟩ d.fs) }⟩ : AS).op i (fun z d => renames z d tmpP p) = (0, ⟨some ⟨0, m + 1 + 1 + 1, false⟩, s.ds.set i { d with fs := fsave p b d.fs }⟩) := by
    unfold AS.op
    simp only [hs1, hss]
    have e : renames (some ⟨0, m + 1 + 1, false⟩) { d with fs := put tmpP ⟨b, true⟩ (put tmpP ⟨b, false⟩ d.fs) } tmpP p = (0, some ⟨0, m + 1 + 1 + 1, false⟩, { d with fs := fsave p b d.fs }) := by
      have o1 : opens (some ⟨0, m + 1 + 1, false⟩) { d with fs := put tmpP ⟨b, true⟩ (put tmpP ⟨b, false⟩ d.fs) } tmpP [p] = 0 := by
        rw [opens_gd (m + 1 + 1) { d with fs := put tmpP ⟨b, true⟩ (put tmpP ⟨b, false⟩ d.fs) } tmpP [p] hg (by simp [okT, hp])]
        simp only [g2, Option.isSome_some, if_true]
      have b1 := begins_gd (m + 1 + 1) { d with fs := put tmpP ⟨b, true⟩ (put tmpP ⟨b, false⟩ d.fs) } [tmpP, p] hg
      unfold renames
      rw [if_pos o1, if_neg (fun e => hne e.symm), b1]
      simp only [g2]
      rfl
    rw [e]
  unfold AS.save
  rw [h1, if_neg (by simp), h2, if_neg (by simp), h3]
theorem fsave_up {fs : L Fil} (hu : Up fs) (p : Path) (b : List UInt8) : Up (fsave p b fs) := del_up (put_up (put_up (put_up hu))) _
theorem fsave_get {fs : L Fil} (hu : Up fs) (p q : Path) (b : List UInt8) (hne : p ≠ tmpP) : get q (fsave p b fs) = if q = p then some ⟨b, true⟩ else if q = tmpP then none else get q fs := by
  unfold fsave
  rw [get_del, get_put (put_up (put_up hu)), get_put (put_up hu), get_put hu]
  by_cases h1 : q = p
  · subst h1
    have e : ¬ tmpP = q := fun e => hne e.symm
    simp [e]
  · have h1' : ¬ p = q := fun e => h1 e.symm
    by_cases h2 : q = tmpP
    · subst h2; simp [h1]
    · have h2' : ¬ tmpP = q := fun e => h2 e.symm
      simp [h1, h1', h2, h2']
/-- Has a whole disk a voice? -/
def vf (d : DS) (w : List UInt8) : Bool := match get fmtP d.fs with
  | some f => f.b == w
  | none => false
theorem set_self (l : List DS) (i : Nat) : l.set i (l.getD i dz) = l := by
  refine List.ext_getElem? fun j => ?_
  rw [List.getElem?_set]
  by_cases e : i = j
  · subst e
    rw [if_pos rfl]
    split
    · rename_i h; rw [List.getD_eq_getElem?_getD, List.getElem?_eq_getElem h]; rfl
    · rename_i h; rw [List.getElem?_eq_none (by omega)]
  · rw [if_neg e]
theorem voice_gd {s : AS} {m : Nat} (h : Gd s m) (i : Nat) (w : List UInt8) : s.voice i w = ((vf (s.ds.getD i dz) w, 0), ⟨some ⟨0, m + 1, false⟩, s.ds⟩) := by
  have hg := h.getD i
  have hz := h.z
  obtain ⟨d, hd⟩ : ∃ d, s.ds.getD i dz = d := ⟨_, rfl⟩
  have ho : (s.op i fun z d => begins z d [fmtP]).2 = ⟨some ⟨0, m + 1, false⟩, s.ds⟩ := by
    unfold AS.op
    rw [hz]
    have b1 := begins_gd m (s.ds.getD i dz) [fmtP] hg
    simp only [b1]
    rw [set_self]
  unfold AS.voice AS.read
  rw [ho, hz, hd]
  rw [hd] at hg
  show ((if opens (some ⟨0, m, false⟩) d fmtP [] = 0 then (readb (some ⟨0, m, false⟩) d fmtP == w, 0) else if opens (some ⟨0, m, false⟩) d fmtP [] = 6 then (false, 0) else (false, opens (some ⟨0, m, false⟩) d fmtP [])), _) = _
  unfold readb vf
  rw [opens_gd _ _ _ [] hg (by decide)]
  cases e : get fmtP d.fs with
  | some f => simp
  | none => simp
theorem voices_gd {s : AS} {m : Nat} (h : Gd s m) (wd : Nat → List UInt8) : ∀ k, s.voices wd k = ((List.range k).filter (fun i => vf (s.ds.getD i dz) (wd i)), ⟨some ⟨0, m + k, false⟩, s.ds⟩)
  | 0 => by
    obtain ⟨z, ds⟩ := s
    have hz : z = some ⟨0, m, false⟩ := h.z
    subst hz
    rfl
  | k + 1 => by
    have ih := voices_gd h wd k
    have hk : Gd ⟨some ⟨0, m + k, false⟩, s.ds⟩ (m + k) := ⟨rfl, h.ds⟩
    unfold AS.voices
    rw [ih]
    show (if ((⟨some ⟨0, m + k, false⟩, s.ds⟩ : AS).voice k (wd k)).1.1 = true then _ else _, ((⟨some ⟨0, m + k, false⟩, s.ds⟩ : AS).voice k (wd k)).2) = _
    rw [voice_gd hk]
    show (if vf (s.ds.getD k dz) (wd k) = true then _ else _, _) = _
    rw [List.range_succ, List.filter_append]
    congr 1
    cases hv : vf (s.ds.getD k dz) (wd k)
    · rw [List.filter_cons_of_neg (by rw [hv]; decide), List.filter_nil, List.append_nil, if_neg (by decide)]
    · rw [List.filter_cons_of_pos (p := fun i => vf (s.ds.getD i dz) (wd i)) hv, List.filter_nil, if_pos rfl]
/-- A disk without what was left half done. -/
def cl (d : DS) : DS := { d with fs := del tmpP d.fs }
theorem dels_gd {s : AS} {m : Nat} (h : Gd s m) : ∀ k, k ≤ s.ds.length → Gd (s.dels k) (m + k) ∧ ∀ j, (s.dels k).ds[j]? = (s.ds[j]?).map fun d => if j < k then cl d else d
  | 0, _ => ⟨h, fun j => by
    show s.ds[j]? = _
    cases s.ds[j]? <;> simp⟩
  | k + 1, hk => by
    obtain ⟨h1, h2⟩ := dels_gd h k (by omega)
    have hlen : k < (s.dels k).ds.length := by rw [AS.dels_len]; omega
    obtain ⟨d, hd⟩ : ∃ d, s.ds[k]? = some d := ⟨_, List.getElem?_eq_getElem (by omega)⟩
    have hdk : (s.dels k).ds.getD k dz = d := by rw [List.getD_eq_getElem?_getD, h2, hd]; simp
    have hg := h1.getD k
    rw [hdk] at hg
    obtain ⟨r, hr⟩ := deletes_gd (m + k) d tmpP hg okT
    have e : s.dels (k + 1) = ⟨some ⟨0, m + k + 1, false⟩, (s.dels k).ds.set k (cl d)⟩ := by
      show ((s.dels k).op k fun z d => deletes z d tmpP).2 = _
      unfold AS.op
      rw [hdk, h1.z]
      simp only [hr]
      rfl
    rw [e]
    refine ⟨h1.set k hg, fun j => ?_⟩
    show ((s.dels k).ds.set k (cl d))[j]? = _
    rw [List.getElem?_set]
    by_cases hj : k = j
    · subst hj
      rw [if_pos rfl, if_pos hlen, hd]; simp
    · rw [if_neg hj, h2]
      cases s.ds[j]? with
      | none => rfl
      | some x =>
        show some (if j < k then cl x else x) = some (if j < k + 1 then cl x else x)
        by_cases hjk : j < k
        · rw [if_pos hjk, if_pos (by omega)]
        · rw [if_neg hjk, if_neg (by omega)]
theorem dels_all {s : AS} {m : Nat} (h : Gd s m) : s.dels s.ds.length = ⟨some ⟨0, m + s.ds.length, false⟩, s.ds.map cl⟩ := by
  obtain ⟨h1, h2⟩ := dels_gd h s.ds.length (Nat.le_refl _)
  obtain ⟨t, ht⟩ : ∃ t, s.dels s.ds.length = t := ⟨_, rfl⟩
  rw [ht] at h1 h2 ⊢
  obtain ⟨z, ds⟩ := t
  have hz : z = some ⟨0, m + s.ds.length, false⟩ := h1.z
  have hds : ds = s.ds.map cl := by
    refine List.ext_getElem? fun j => ?_
    rw [show ds[j]? = _ from h2 j, List.getElem?_map]
    cases e : s.ds[j]? with
    | none => rfl
    | some x =>
      have hj := (List.getElem?_eq_some_iff.1 e).1
      show some (if j < s.ds.length then Dk.cl x else x) = some (Dk.cl x)
      rw [if_pos hj]
  rw [hz, hds]
theorem cl_gd {d : DS} (h : d.off = false ∧ d.bad = 0) : (cl d).off = false ∧ (cl d).bad = 0 := h
theorem Gd.cl {s : AS} {m k : Nat} (h : Gd s m) : Gd ⟨some ⟨0, k, false⟩, s.ds.map Dk.cl⟩ k := ⟨rfl, fun d hd => by
  obtain ⟨x, hx, rfl⟩ := List.mem_map.1 hd
  exact cl_gd (h.ds x hx)⟩
theorem del_del (p : Path) (l : L Fil) : del p (del p l) = del p l := by
  unfold del
  rw [List.filter_filter]
  congr 1
  funext e
  simp
theorem cl_cl (d : DS) : cl (cl d) = cl d := by
  unfold cl
  simp only [del_del]
/-- Which disks have a voice behind Start. -/
def vcl (s : AS) (K M : Nat) : List Nat := (List.range s.ds.length).filter fun i => vf ((s.ds.map cl).getD i dz) (fmtB K M i)
theorem starts_gd {s : AS} {m : Nat} (h : Gd s m) (K M : Nat) : AS.starts s K M = (((vcl s K M).length, short (vcl s K M).length (quo K M)), ⟨some ⟨0, m + s.ds.length + s.ds.length, false⟩, s.ds.map cl⟩) := by
  unfold AS.starts
  rw [dels_all h, voices_gd h.cl]
  rfl
theorem starts_again {s : AS} (k m : Nat) (h : Gd s m) (K M : Nat) : AS.starts ⟨some ⟨0, k, false⟩, s.ds.map cl⟩ K M = (((vcl s K M).length, short (vcl s K M).length (quo K M)), ⟨some ⟨0, k + s.ds.length + s.ds.length, false⟩, s.ds.map cl⟩) := by
  rw [starts_gd (h.cl (k := k))]
  have e1 : (⟨some ⟨0, k, false⟩, s.ds.map cl⟩ : AS).ds.map cl = s.ds.map cl := by
    show (s.ds.map cl).map cl = _
    rw [List.map_map]
    exact List.map_congr_left fun d _ => cl_cl d
  have e2 : vcl ⟨some ⟨0, k, false⟩, s.ds.map cl⟩ K M = vcl s K M := by
    unfold vcl
    rw [e1]
    simp
  rw [e1, e2]
  simp
theorem voices_again {s : AS} (k m : Nat) (h : Gd s m) (K M : Nat) : ((⟨some ⟨0, k, false⟩, s.ds.map cl⟩ : AS).voices (fmtB K M) s.ds.length).1 = vcl s K M := by
  rw [voices_gd (h.cl (k := k))]
  rfl
end Dk
end Go.Proofs.YthkbbcdnmdjhdaaGreat
