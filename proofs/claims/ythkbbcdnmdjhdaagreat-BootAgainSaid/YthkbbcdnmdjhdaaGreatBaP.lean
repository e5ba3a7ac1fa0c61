/-
  BootAgain, the plain law: formats on blank disks; texts of what stands on disks. No program in sight.
-/
import Derived.Test.YthkbbcdnmdjhdaaGreatGd
/-! XBaP: BootAgain, the plain law: formats on blank disks; texts of what stands on disks. No program in sight. -/
namespace Go.Proofs.YthkbbcdnmdjhdaaGreat
open Go.RowKit
namespace Dk
theorem inits_blank {s : AS} (h : Gd s 0) (hd : ∀ d ∈ s.ds, d.fs = [] ∧ 11 ≤ d.most) (K M : Nat) : ∀ k, k ≤ s.ds.length → (s.inits (fmtB K M) k).1 = 0 ∧ Gd (s.inits (fmtB K M) k).2 (3 * k) ∧ ∀ j, k ≤ j → (s.inits (fmtB K M) k).2.ds[j]? = s.ds[j]?
  | 0, _ => ⟨rfl, h, fun _ _ => rfl⟩
  | k + 1, hk => by
    obtain ⟨h1, h2, h3⟩ := inits_blank h hd K M k (by omega)
    have hlen : k < (s.inits (fmtB K M) k).2.ds.length := by rw [AS.inits_len]; omega
    obtain ⟨d, hdk⟩ : ∃ d, s.ds[k]? = some d := ⟨_, List.getElem?_eq_getElem (by omega)⟩
    have hg : (s.inits (fmtB K M) k).2.ds.getD k dz = d := by rw [List.getD_eq_getElem?_getD, h3 k (Nat.le_refl _), hdk]; rfl
    obtain ⟨e1, e2⟩ := hd d (List.mem_of_getElem? hdk)
    have hs := save_gd (i := k) (p := fmtP) (b := fmtB K M k) h2 hlen (by rw [hg, e1]; exact Up.nil) (by rw [hg, e1]; show 0 + 11 ≤ _; omega) (by rw [hg, e1]; simp) (by rw [fmtB_len]; decide) (by decide) (by decide)
    rw [AS.inits_go _ _ h1, hs]
    have hgd := h2.getD k
    refine ⟨rfl, ?_, fun j hj => ?_⟩
    · exact h2.set (k := 3 * (k + 1)) k hgd
    · show ((s.inits (fmtB K M) k).2.ds.set k _)[j]? = _
      rw [List.getElem?_set_ne (by omega), h3 j (by omega)]
theorem Gd.write {s : AS} {m : Nat} (h : Gd s m) (i : Nat) (p : Path) (b : List UInt8) : Gd (s.op i fun z d => writes z d p b).2 (m + 1) := by
  have hg := h.getD i
  obtain ⟨r, fs, hr⟩ := writes_gd m (s.ds.getD i dz) p b hg
  unfold AS.op
  rw [h.z]
  simp only [hr]
  exact h.set i hg
/-- Paths that may be. -/
def Pd (d : DS) : Prop := ∀ e ∈ d.fs, okP e.1 = true
theorem begins_zero {z : Option FS} {d : DS} {ps : List Path} (h : (begins z d ps).1 = 0) : ps.all okP = true := by
  unfold begins at h
  by_cases h1 : (ticks z).1 = false
  · rw [if_pos h1] at h; cases h
  rw [if_neg h1] at h
  by_cases h2 : d.off = true
  · rw [if_pos h2] at h; cases h
  rw [if_neg h2] at h
  by_cases h3 : 0 < d.bad
  · rw [if_pos h3] at h; cases h
  rw [if_neg h3] at h
  by_cases h4 : ps.all okP = true
  · exact h4
  · rw [if_neg h4] at h; cases h
theorem Pd.begins {d : DS} (h : Pd d) (z : Option FS) (ps : List Path) : Pd (begins z d ps).2.2 := by
  unfold Pd
  rw [begins_fs]; exact h
theorem Pd.put {d : DS} (h : Pd d) {p : Path} (hp : okP p = true) (f : Fil) : ∀ e ∈ Dk.put p f d.fs, okP e.1 = true := fun e he => by
  rcases mem_put.1 he with rfl | ⟨he, -⟩
  · exact hp
  · exact h e he
theorem Pd.writes {d : DS} (h : Pd d) (z : Option FS) (p : Path) (b : List UInt8) : Pd (writes z d p b).2.2 := by
  unfold Dk.writes
  by_cases h0 : (Dk.begins z d [p]).1 ≠ 0
  · rw [if_pos h0]; exact h.begins _ _
  rw [if_neg h0]
  have hp : okP p = true := by have := begins_zero (Classical.byContradiction h0); simpa using this
  split
  · exact h.begins _ _
  obtain ⟨mn, hmn⟩ : ∃ mn, (if (get p d.fs).isSome then d.fs.length else d.fs.length + 1) = mn := ⟨_, rfl⟩
  rw [hmn]
  split
  · exact h.begins _ _
  · exact h.put hp _
theorem Pd.syncs {d : DS} (h : Pd d) (z : Option FS) (p : Path) : Pd (syncs z d p).2.2 := by
  unfold Dk.syncs
  split
  · rename_i h0
    have hp := begins_zero (opens_zero h0).1
    exact h.put (by simpa using hp) _
  · exact h.begins _ _
theorem Pd.renames {d : DS} (h : Pd d) (z : Option FS) (p q : Path) : Pd (renames z d p q).2.2 := by
  unfold Dk.renames
  split
  · rename_i h0
    have hp := begins_zero (opens_zero h0).1
    simp only [List.all_cons, List.all_nil, Bool.and_true, Bool.and_eq_true] at hp
    split
    · exact h.begins _ _
    · intro e he
      have he2 := (mem_del.1 he).1
      split at he2
      · exact h.put hp.2 _ e he2
      · exact h e he2
  · exact h.begins _ _
def Ps (s : AS) : Prop := ∀ d ∈ s.ds, Pd d
theorem Ps.getD {s : AS} (h : Ps s) (i : Nat) : Pd (s.ds.getD i dz) := by
  rw [List.getD_eq_getElem?_getD]
  cases e : s.ds[i]? with
  | none => intro e he; cases he
  | some d => exact h d (List.mem_of_getElem? e)
theorem Ps.set {s : AS} (h : Ps s) (i : Nat) {z : Option FS} {d : DS} (hd : Pd d) : Ps ⟨z, s.ds.set i d⟩ := fun x hx => by
  rcases List.mem_or_eq_of_mem_set hx with hx | rfl
  · exact h x hx
  · exact hd
theorem Ps.write {s : AS} (h : Ps s) (i : Nat) (p : Path) (b : List UInt8) : Ps (s.op i fun z d => Dk.writes z d p b).2 := h.set i ((h.getD i).writes _ _ _)
theorem Ps.save {s : AS} (h : Ps s) (i : Nat) (p : Path) (b : List UInt8) : Ps (s.save i p b).2 := by
  have h1 := h.write i tmpP b
  have h2 : Ps ((s.op i fun z d => Dk.writes z d tmpP b).2.op i fun z d => Dk.syncs z d tmpP).2 := h1.set i ((h1.getD i).syncs _ _)
  have h3 : Ps (((s.op i fun z d => Dk.writes z d tmpP b).2.op i fun z d => Dk.syncs z d tmpP).2.op i fun z d => Dk.renames z d tmpP p).2 := h2.set i ((h2.getD i).renames _ _ _)
  unfold AS.save
  split
  · exact h1
  split
  · exact h2
  · exact h3
theorem Ps.inits {s : AS} (h : Ps s) (wd : Nat → List UInt8) : ∀ k, Ps (s.inits wd k).2
  | 0 => h
  | k + 1 => by
    have ih := Ps.inits h wd k
    show Ps (if (s.inits wd k).1 ≠ 0 then s.inits wd k else _).2
    split
    · exact ih
    · exact ih.save _ _ _
theorem Ps.cl {s : AS} (h : Ps s) (z : Option FS) : Ps ⟨z, s.ds.map Dk.cl⟩ := fun d hd => by
  obtain ⟨x, hx, rfl⟩ := List.mem_map.1 hd
  exact fun e he => h x hx e (mem_del.1 he).1
theorem Pd.path {d : DS} (h : Pd d) {k : Nat} {p : Path} (hp : (d.fs.map (·.1))[k]? = some p) : p.length ≤ 600 := by
  obtain ⟨e, he, rfl⟩ := List.mem_map.1 (List.mem_of_getElem? hp)
  have := h e he
  unfold okP at this
  simp only [decide_eq_true_eq] at this
  omega
/-- A file's text: its path, a nought, its bytes. -/
def txt (d : DS) (p : Path) : Path := p ++ 0 :: (match get p d.fs with | some f => f.b | none => [])
/-- The texts of a disk's files; but for what was left half done. -/
def ntx (d : DS) : List Path := (d.fs.map (·.1)).map (txt d)
def wtx (d : DS) : List Path := ((d.fs.map (·.1)).filter fun p => !(p == tmpP)).map (txt d)
theorem wtx_cl (d : DS) : wtx d = ntx (cl d) := by
  unfold wtx ntx
  have e : ((cl d).fs.map (·.1)) = (d.fs.map (·.1)).filter fun p => !(p == tmpP) := by
    show (del tmpP d.fs).map _ = _
    unfold del
    induction d.fs with
    | nil => rfl
    | cons x l ih =>
      rw [List.filter_cons, List.map_cons, List.filter_cons]
      by_cases h : x.1 = tmpP
      · simp only [h, beq_self_eq_true, Bool.not_true, Bool.false_eq_true, if_false]; exact ih
      · have h2 : (x.1 == tmpP) = false := by simpa using h
        simp only [h2, Bool.not_false, if_true, List.map_cons, ih]
  rw [e]
  refine List.map_congr_left fun p hp => ?_
  have hp2 := (List.mem_filter.1 hp).2
  have hne : ¬ tmpP = p := fun e => by subst e; simp at hp2
  unfold txt
  rw [show (cl d).fs = del tmpP d.fs from rfl, get_del, if_neg hne]
theorem wtx_len (d : DS) : (wtx d).length ≤ d.fs.length := by
  unfold wtx
  rw [List.length_map]
  exact Nat.le_trans (List.length_filter_le ..) (by rw [List.length_map]; exact Nat.le_refl _)
theorem ntx_len (d : DS) : (ntx d).length = d.fs.length := by unfold ntx; simp
/-- The texts of the first i disks. -/
def WT (ds : List DS) (i : Nat) : List Path := (List.range i).flatMap fun j => wtx (ds.getD j dz)
def NT (ds : List DS) (i : Nat) : List Path := (List.range i).flatMap fun j => ntx (ds.getD j dz)
theorem WT_succ (ds : List DS) (i : Nat) : WT ds (i + 1) = WT ds i ++ wtx (ds.getD i dz) := by unfold WT; rw [List.range_succ, List.flatMap_append]; simp
theorem NT_succ (ds : List DS) (i : Nat) : NT ds (i + 1) = NT ds i ++ ntx (ds.getD i dz) := by unfold NT; rw [List.range_succ, List.flatMap_append]; simp
theorem WT_len {ds : List DS} (h : ∀ j, (ds.getD j dz).fs.length ≤ 4096) : ∀ i, (WT ds i).length ≤ 4096 * i
  | 0 => Nat.zero_le _
  | i + 1 => by
    rw [WT_succ, List.length_append]
    have := WT_len h i
    have := wtx_len (ds.getD i dz)
    have := h i
    omega
theorem NT_len {ds : List DS} (h : ∀ j, (ds.getD j dz).fs.length ≤ 4096) : ∀ i, (NT ds i).length ≤ 4096 * i
  | 0 => Nat.zero_le _
  | i + 1 => by
    rw [NT_succ, List.length_append]
    have := NT_len h i
    have := ntx_len (ds.getD i dz)
    have := h i
    omega
theorem WT_cl (ds : List DS) : ∀ i, i ≤ ds.length → WT ds i = NT (ds.map cl) i
  | 0, _ => rfl
  | i + 1, h => by
    rw [WT_succ, NT_succ, WT_cl ds i (by omega), wtx_cl]
    have e : (ds.map cl).getD i dz = cl (ds.getD i dz) := by
      rw [List.getD_eq_getElem?_getD, List.getD_eq_getElem?_getD, List.getElem?_map, List.getElem?_eq_getElem (by omega)]
      rfl
    rw [e]
/-- A disk's first k texts. -/
def ntk (d : DS) (k : Nat) : List Path := ((d.fs.map (·.1)).take k).map (txt d)
def wtk (d : DS) (k : Nat) : List Path := (((d.fs.map (·.1)).take k).filter fun p => !(p == tmpP)).map (txt d)
theorem ntk_succ {d : DS} {k : Nat} {q : Path} (h : (d.fs.map (·.1))[k]? = some q) : ntk d (k + 1) = ntk d k ++ [txt d q] := by
  unfold ntk
  rw [List.take_add_one, h, List.map_append]; rfl
theorem wtk_succ {d : DS} {k : Nat} {q : Path} (h : (d.fs.map (·.1))[k]? = some q) : wtk d (k + 1) = if q = tmpP then wtk d k else wtk d k ++ [txt d q] := by
  unfold wtk
  rw [List.take_add_one, h, List.filter_append, List.map_append]
  by_cases e : q = tmpP
  · rw [if_pos e]
    have h2 : (q == tmpP) = true := by simpa using e
    simp [h2]
  · rw [if_neg e]
    have h2 : (q == tmpP) = false := by simpa using e
    simp [h2]
theorem ntk_all (d : DS) (k : Nat) (h : k = d.fs.length) : ntk d k = ntx d := by
  unfold ntk ntx
  rw [List.take_of_length_le (by rw [List.length_map, h]; exact Nat.le_refl _)]
theorem wtk_all (d : DS) (k : Nat) (h : k = d.fs.length) : wtk d k = wtx d := by
  unfold wtk wtx
  rw [List.take_of_length_le (by rw [List.length_map, h]; exact Nat.le_refl _)]
theorem ntk_len (d : DS) (k : Nat) : (ntk d k).length ≤ d.fs.length := by
  unfold ntk
  rw [List.length_map, List.length_take, List.length_map]; exact Nat.min_le_right _ _
theorem wtk_len (d : DS) (k : Nat) : (wtk d k).length ≤ d.fs.length := by
  unfold wtk
  rw [List.length_map]
  refine Nat.le_trans (List.length_filter_le ..) ?_
  rw [List.length_take, List.length_map]; exact Nat.min_le_right _ _
end Dk
end Go.Proofs.YthkbbcdnmdjhdaaGreat
