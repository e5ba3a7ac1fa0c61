/-
  What products, inverses, powers and the systematic matrix answer, in plain Lean. No program in sight.
-/
import Derived.Test.YtdmdcgcmappliaaMatList
namespace Go.Proofs.Ytdmdcgcmappliaa.Mat
open Go.Proofs.Ytdmdcgcmappliaa.Gf

theorem mmul_assoc {a b c : M} {n k m l : Nat} (ha : Sh a n k) (hb : Sh b k m) (hc : Sh c m l) : mmul (mmul a b m) c l = mmul a (mmul b c l) l := by
  have s1 : Sh (mmul a b m) n m := mmul_sh ha
  have s2 : Sh (mmul b c l) k l := mmul_sh hb
  refine mat_ext (mmul_sh s1) (mmul_sh ha) ?_
  exact (mmul_en s1 hc).trans ((EqOn.mul (mmul_en ha hb) (EqOn.refl _ _ _)).trans ((EqOn.assoc n k m l _ _ _).trans ((EqOn.mul (EqOn.refl _ _ _) (mmul_en hb hc)).symm.trans (mmul_en ha s2).symm)))
theorem unit_mmul {a : M} {n m : Nat} (ha : Sh a n m) : mmul (unit n) a m = a :=
  mat_ext (mmul_sh (unit_sh n)) ha ((mmul_en (unit_sh n) ha).trans ((EqOn.mul (unit_en n) (EqOn.refl _ _ _)).trans (EqOn.one_mul n m _)))
theorem mmul_unit {a : M} {n m : Nat} (ha : Sh a n m) : mmul a (unit m) m = a :=
  mat_ext (mmul_sh ha) ha ((mmul_en ha (unit_sh m)).trans ((EqOn.mul (EqOn.refl _ _ _) (unit_en m)).trans (EqOn.mul_one n m _)))
theorem minv_left {n : Nat} {a z : M} (ha : Sh a n n) (h : minv n a = some z) : mmul z a n = unit n :=
  mat_ext (mmul_sh (minv_spec ha h).1) (unit_sh n) ((mmul_en (minv_spec ha h).1 ha).trans ((minv_spec ha h).2.1.trans (unit_en n).symm))
theorem minv_right {n : Nat} {a z : M} (ha : Sh a n n) (h : minv n a = some z) : mmul a z n = unit n :=
  mat_ext (mmul_sh ha) (unit_sh n) ((mmul_en ha (minv_spec ha h).1).trans ((minv_spec ha h).2.2.trans (unit_en n).symm))
theorem minv_back {n : Nat} {a z : M} (ha : Sh a n n) (h : minv n a = some z) : minv n z = some a := by
  obtain ⟨s1, h1, h2⟩ := minv_spec ha h
  obtain ⟨y, hy⟩ := minv_free s1 (Free.of_left h2)
  obtain ⟨s2, h3, h4⟩ := minv_spec s1 hy
  rw [hy, mat_ext s2 ha (inv_unique h3 h1)]

/-- Picked rows. -/
def pick (a : M) (l : List Nat) : M := l.map fun i => a.getD i []
theorem pick_sh {a : M} {n m : Nat} (ha : Sh a n m) {l : List Nat} (hl : ∀ i ∈ l, i < n) : Sh (pick a l) l.length m :=
  ⟨by simp [pick], fun r hr => by obtain ⟨i, hi, rfl⟩ := List.mem_map.1 hr; exact ha.row (hl i hi)⟩
theorem pick_row (a : M) (l : List Nat) {i : Nat} (hi : i < l.length) : (pick a l).getD i [] = a.getD l[i] [] := by
  unfold pick
  rw [getD_lt (by simpa using hi)]; simp
theorem pick_mmul {a b : M} {n k m : Nat} (ha : Sh a n k) {l : List Nat} (hl : ∀ i ∈ l, i < n) : mmul (pick a l) b m = pick (mmul a b m) l := by
  unfold pick
  show ((l.map fun i => a.getD i []).map fun r => rowk r b m b.length) = _
  rw [List.map_map]
  refine List.map_congr_left fun i hi => ?_
  rw [mmul_row ha (hl i hi)]
  rfl
theorem pick_all {a : M} {n m : Nat} (ha : Sh a n m) : pick a (List.range n) = a := by
  apply List.ext_getElem (by simp [pick, ha.1])
  intro i h1 h2
  have hi : i < n := by rw [← ha.1]; exact h2
  rw [← getD_lt h1 [], ← getD_lt h2 [], pick_row _ _ (by simpa using hi)]
  simp

theorem vand_take (n m k : Nat) : (vand (n + m) k).take n = vand n k := by
  unfold vand
  rw [← List.map_take, List.take_range, Nat.min_eq_left (by omega)]
theorem ofNat_inj {i j : Nat} (hi : i < 256) (hj : j < 256) (h : UInt8.ofNat i = UInt8.ofNat j) : i = j := by
  have := congrArg UInt8.toNat h
  rw [UInt8.toNat_ofNat', UInt8.toNat_ofNat', Nat.mod_eq_of_lt hi, Nat.mod_eq_of_lt hj] at this
  exact this
/-- Different rows of powers, as many as columns, are free. -/
theorem vand_pick_free (n k : Nat) (hn : n ≤ 256) (l : List Nat) (hl : ∀ i ∈ l, i < n) (hk : l.length = k) (hd : l.Nodup) : Free k (en (pick (vand n k) l)) := by
  have h1 := vand_free k (l.map UInt8.ofNat) (by simpa using hk) (by
    unfold List.Nodup at hd ⊢
    rw [List.pairwise_map]
    exact hd.imp_of_mem fun hx hy hne e => hne (ofNat_inj (by have := hl _ hx; omega) (by have := hl _ hy; omega) e))
  refine h1.on fun i hi j hj => ?_
  have hil : i < l.length := by omega
  unfold en
  rw [pick_row _ _ hil]
  have h2 := vand_en n k l[i] (hl _ (List.getElem_mem hil)) j hj
  unfold en at h2
  rw [h2]
  show pw ((l.map UInt8.ofNat).getD i 0) j = pw (UInt8.ofNat l[i]) j
  rw [getD_lt (by simpa using hil)]
  simp
theorem vand_inv (k : Nat) (hk : k ≤ 256) : ∃ z, minv k (vand k k) = some z := by
  refine minv_free (vand_sh k k) ?_
  have := vand_pick_free k k hk (List.range k) (fun i hi => by simpa using hi) (by simp) List.nodup_range
  rwa [pick_all (vand_sh k k)] at this

/-- The systematic matrix of n data rows and m more. -/
def sys (n m : Nat) : Option M := match minv n (vand n n) with
  | some top => some (mmul (vand (n + m) n) top n)
  | none => none
theorem sys_some (n m : Nat) (h : n + m ≤ 256) : ∃ top, minv n (vand n n) = some top ∧ sys n m = some (mmul (vand (n + m) n) top n) := by
  obtain ⟨top, ht⟩ := vand_inv n (by omega)
  exact ⟨top, ht, by unfold sys; rw [ht]⟩
theorem sys_sh {n m : Nat} {x : M} (h : sys n m = some x) : Sh x (n + m) n := by
  unfold sys at h
  cases ht : minv n (vand n n) with
  | none => rw [ht] at h; cases h
  | some top =>
    rw [ht] at h
    simp only [Option.some.injEq] at h
    rw [← h]; exact mmul_sh (vand_sh (n + m) n)
theorem mmul_take (a b : M) (m n : Nat) : (mmul a b m).take n = mmul (a.take n) b m := by
  unfold mmul
  rw [← List.map_take]
theorem sys_top {n m : Nat} {x : M} (h : sys n m = some x) : x.take n = unit n := by
  unfold sys at h
  cases ht : minv n (vand n n) with
  | none => rw [ht] at h; cases h
  | some top =>
    rw [ht] at h
    simp only [Option.some.injEq] at h
    rw [← h, mmul_take, vand_take, minv_right (vand_sh n n) ht]
theorem sys_pick {n m : Nat} {x : M} (hnm : n + m ≤ 256) (h : sys n m = some x) (l : List Nat) (hl : ∀ i ∈ l, i < n + m) (hk : l.length = n) (hd : l.Nodup) : ∃ z, minv n (pick x l) = some z := by
  unfold sys at h
  cases ht : minv n (vand n n) with
  | none => rw [ht] at h; cases h
  | some top =>
    rw [ht] at h
    simp only [Option.some.injEq] at h
    have hv := vand_sh (n + m) n
    obtain ⟨st, _, t2⟩ := minv_spec (vand_sh n n) ht
    have hp : Sh (pick (vand (n + m) n) l) n n := by have := pick_sh hv hl; rwa [hk] at this
    rw [← h, ← pick_mmul hv hl]
    refine minv_free (mmul_sh hp) ?_
    refine Free.on ?_ (mmul_en hp st).symm
    exact Free.mul (vand_pick_free (n + m) n hnm l hl hk hd) (Free.of_left t2)
end Go.Proofs.Ytdmdcgcmappliaa.Mat
