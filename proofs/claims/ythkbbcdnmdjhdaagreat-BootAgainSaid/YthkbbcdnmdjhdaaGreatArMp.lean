/-
  ArrayFormats and ArrayVoices, the plain law: disks whose fuse is alive, what they hold at 'format', which voices there are.
-/
import Derived.Test.YthkbbcdnmdjhdaaGreatArKp
import Derived.Test.YthkbbcdnmdjhdaaGreatArW
/-! XArMp: ArrayFormats and ArrayVoices, the plain law: disks whose fuse is alive, what they hold at 'format', which voices there are. -/
namespace Go.Proofs.YthkbbcdnmdjhdaaGreat
open Go.RowKit
namespace Dk
/-- n disks with a fuse that never blows. -/
def lv (n m : Nat) (D : Nat → DS) : AS := ⟨some ⟨0, m, false⟩, (List.range n).map D⟩
def upd (D : Nat → DS) (i : Nat) (d : DS) : Nat → DS := fun j => if j = i then d else D j
theorem upd_same (D : Nat → DS) (i : Nat) (d : DS) : upd D i d i = d := if_pos rfl
theorem upd_other (D : Nat → DS) {i j : Nat} (d : DS) (h : j ≠ i) : upd D i d j = D j := if_neg h
theorem upd_upd (D : Nat → DS) (i : Nat) (d e : DS) : upd (upd D i d) i e = upd D i e := by
  funext j; unfold upd; split <;> rfl
theorem upd_self (D : Nat → DS) (i : Nat) : upd D i (D i) = D := by
  funext j; unfold upd; split
  · rename_i h; rw [h]
  · rfl
theorem lv_len (n m : Nat) (D : Nat → DS) : (lv n m D).ds.length = n := by simp [lv]
theorem lv_get {n i : Nat} (m : Nat) (D : Nat → DS) (hi : i < n) : (lv n m D).ds.getD i dz = D i := by
  rw [List.getD_eq_getElem?_getD]
  simp [lv, hi]
theorem lv_set (n i : Nat) (D : Nat → DS) (d : DS) : ((List.range n).map D).set i d = (List.range n).map (upd D i d) := by
  refine List.ext_getElem? fun j => ?_
  rw [List.getElem?_set, List.getElem?_map, List.getElem?_map]
  by_cases hj : j < n
  · rw [List.getElem?_range hj]
    by_cases e : i = j
    · subst e
      simp [hj, upd]
    · have e' : j ≠ i := fun x => e x.symm
      simp [e, e', upd]
  · rw [List.getElem?_eq_none (by simp; omega)]
    split
    · simp; omega
    · rfl
theorem lv_op {n m m' i r : Nat} {D : Nat → DS} {d : DS} (hi : i < n) {f : Option FS → DS → Nat × Option FS × DS} (h : f (some ⟨0, m, false⟩) (D i) = (r, some ⟨0, m', false⟩, d)) :
    (lv n m D).op i f = (r, lv n m' (upd D i d)) := by
  unfold AS.op
  rw [lv_get m D hi]
  show ((f (some ⟨0, m, false⟩) (D i)).1, _) = _
  rw [h]
  show (r, (⟨(f (some ⟨0, m, false⟩) (D i)).2.1, ((List.range n).map D).set i (f (some ⟨0, m, false⟩) (D i)).2.2⟩ : AS)) = _
  rw [h, lv_set]
  rfl
theorem lv_on {n i : Nat} (m : Nat) (D : Nat → DS) (hi : i < n) (F : DS → DS) : (lv n m D).on i F = lv n m (upd D i (F (D i))) := by
  unfold AS.on
  rw [lv_get m D hi]
  show (⟨_, ((List.range n).map D).set i _⟩ : AS) = _
  rw [lv_set]
  rfl
theorem blanks_lv (n : Nat) (d : DS) : (⟨some ⟨0, 0, false⟩, List.replicate n d⟩ : AS) = lv n 0 fun _ => d := by
  unfold lv
  congr 1
  refine List.ext_getElem? fun j => ?_
  rw [List.getElem?_map]
  by_cases hj : j < n
  · rw [List.getElem?_range hj, List.getElem?_replicate, if_pos hj]; rfl
  · rw [List.getElem?_eq_none (by simp; omega), List.getElem?_eq_none (by simp; omega)]; rfl
/-- A disk that is online and whole, of 1000 bytes. -/
def ok1 (fs : L Fil) : DS := ⟨1000, false, 0, fs⟩
def fF (c : List UInt8) (s : Bool) : L Fil := [(fmtP, ⟨c, s⟩)]
theorem okf : okP fmtP = true := by decide
theorem ft : (fmtP = tmpP) = False := eq_false (by decide)
theorem tf : (tmpP = fmtP) = False := eq_false (by decide)
theorem bft : bytesBefore fmtP tmpP = true := by decide
theorem btf : bytesBefore tmpP fmtP = false := by decide
/-- What is there before a save: nothing, or a format. -/
def Fs (fs : L Fil) : Prop := fs = [] ∨ ∃ c s, fs = fF c s ∧ c.length ≤ 100
attribute [local simp] writes syncs renames deletes opens begins ticks okt okf ft tf bft btf put ins del get olen Dk.tot ok1 fF
theorem lv_w (m : Nat) (fs : L Fil) (hf : Fs fs) (b : List UInt8) (hb : b.length ≤ 100) : writes (some ⟨0, m, false⟩) (ok1 fs) tmpP b = (0, some ⟨0, m + 1, false⟩, ok1 (fs ++ [(tmpP, ⟨b, false⟩)])) := by
  have h1 : ¬ 262144 < b.length := by omega
  rcases hf with rfl | ⟨c, s, rfl, hc⟩
  · have h2 : ¬ 1000 < b.length := by omega
    simp [*]
  · have h2 : ¬ 1000 < c.length + b.length := by omega
    simp [*]
theorem lv_s (m : Nat) (fs : L Fil) (hf : Fs fs) (b : List UInt8) : syncs (some ⟨0, m, false⟩) (ok1 (fs ++ [(tmpP, ⟨b, false⟩)])) tmpP = (0, some ⟨0, m + 1, false⟩, ok1 (fs ++ [(tmpP, ⟨b, true⟩)])) := by
  rcases hf with rfl | ⟨c, s, rfl, hc⟩ <;> simp
theorem lv_r (m : Nat) (fs : L Fil) (hf : Fs fs) (b : List UInt8) : renames (some ⟨0, m, false⟩) (ok1 (fs ++ [(tmpP, ⟨b, true⟩)])) tmpP fmtP = (0, some ⟨0, m + 1, false⟩, ok1 (fF b true)) := by
  rcases hf with rfl | ⟨c, s, rfl, hc⟩ <;> simp
theorem lv_wf (m : Nat) (fs : L Fil) (hf : Fs fs) (b : List UInt8) (hb : b.length ≤ 100) : writes (some ⟨0, m, false⟩) (ok1 fs) fmtP b = (0, some ⟨0, m + 1, false⟩, ok1 (fF b false)) := by
  have h1 : ¬ 262144 < b.length := by omega
  rcases hf with rfl | ⟨c, s, rfl, hc⟩
  · have h2 : ¬ 1000 < b.length := by omega
    simp [*]
  · have h2 : ¬ 1000 + c.length < c.length + b.length := by omega
    simp [*]
theorem lv_d (m : Nat) (c : List UInt8) (s : Bool) : deletes (some ⟨0, m, false⟩) (ok1 (fF c s)) fmtP = (0, some ⟨0, m + 1, false⟩, ok1 []) := by simp
theorem save_lv {n i : Nat} (m : Nat) {D : Nat → DS} {fs : L Fil} (hi : i < n) (hD : D i = ok1 fs) (hf : Fs fs) (b : List UInt8) (hb : b.length ≤ 100) : (lv n m D).save i fmtP b = (0, lv n (m + 3) (upd D i (ok1 (fF b true)))) := by
  have h1 := lv_op (m := m) (D := D) hi (f := fun z d => writes z d tmpP b) (by rw [hD]; exact lv_w m fs hf b hb)
  have h2 := lv_op (m := m + 1) (D := upd D i (ok1 (fs ++ [(tmpP, ⟨b, false⟩)]))) hi (f := fun z d => syncs z d tmpP) (by rw [upd_same]; exact lv_s (m + 1) fs hf b)
  have h3 := lv_op (m := m + 1 + 1) (D := upd (upd D i (ok1 (fs ++ [(tmpP, ⟨b, false⟩)]))) i (ok1 (fs ++ [(tmpP, ⟨b, true⟩)]))) hi (f := fun z d => renames z d tmpP fmtP) (by rw [upd_same]; exact lv_r (m + 1 + 1) fs hf b)
  rw [upd_upd, upd_upd] at h3
  rw [upd_upd] at h2
  unfold AS.save
  rw [h1, if_neg (by simp), h2, if_neg (by simp), h3]
/-- Has a disk a voice, where w is what its format must be? And the disk behind the asking. -/
def vo (d : DS) (w : List UInt8) : Bool × Nat := if d.off then (false, 10) else if 0 < d.bad then (false, 9) else match get fmtP d.fs with
  | some f => (f.b == w, 0)
  | none => (false, 0)
def vn (d : DS) : DS := if d.off then d else if 0 < d.bad then { d with bad := d.bad - 1 } else d
theorem beg_lv (m : Nat) (d : DS) (p : Path) (hp : okP p = true) : begins (some ⟨0, m, false⟩) d [p] = (if d.off then 10 else if 0 < d.bad then 9 else 0, some ⟨0, m + 1, false⟩, vn d) := by
  unfold begins ticks vn
  simp only [Bool.false_eq_true, if_false, List.all_cons, List.all_nil, hp, Bool.and_true, if_true]
  cases d.off
  · by_cases h : 0 < d.bad
    · simp [h]
    · simp [h]
  · simp
theorem read_lv {n i : Nat} (m : Nat) {D : Nat → DS} {c : List UInt8} {s : Bool} (hi : i < n) (hD : D i = ok1 (fF c s)) : (lv n m D).read i fmtP = ((0, c), lv n (m + 1) D) := by
  have h1 := lv_op (m := m) (D := D) hi (f := fun z d => begins z d [fmtP]) (by rw [beg_lv m _ _ okf])
  have h2 : vn (ok1 (fF c s)) = ok1 (fF c s) := rfl
  rw [hD, h2, ← hD, upd_self] at h1
  unfold AS.read
  rw [h1, lv_get m D hi, hD]
  show ((opens (some ⟨0, m, false⟩) (ok1 (fF c s)) fmtP [], readb (some ⟨0, m, false⟩) (ok1 (fF c s)) fmtP), _) = _
  unfold readb
  simp
theorem voice_lv {n i : Nat} (m : Nat) {D : Nat → DS} (hi : i < n) (w : List UInt8) : (lv n m D).voice i w = (vo (D i) w, lv n (m + 1) (upd D i (vn (D i)))) := by
  have h1 := lv_op (m := m) (D := D) hi (f := fun z d => begins z d [fmtP]) (by rw [beg_lv m _ _ okf])
  unfold AS.voice AS.read
  rw [h1, lv_get m D hi]
  show ((if opens (some ⟨0, m, false⟩) (D i) fmtP [] = 0 then (readb (some ⟨0, m, false⟩) (D i) fmtP == w, 0) else if opens (some ⟨0, m, false⟩) (D i) fmtP [] = 6 then (false, 0) else (false, opens (some ⟨0, m, false⟩) (D i) fmtP [])), _) = _
  congr 1
  unfold readb Dk.opens vo
  rw [beg_lv m _ _ okf]
  cases (D i).off
  · by_cases h : 0 < (D i).bad
    · simp [h]
    · simp only [h, if_false, Bool.false_eq_true, if_true]
      cases hg : get fmtP (D i).fs with
      | none => rfl
      | some f => rfl
  · rfl
theorem voices_lv {n : Nat} (m : Nat) (D : Nat → DS) (wd : Nat → List UInt8) : ∀ k, k ≤ n → (lv n m D).voices wd k = ((List.range k).filter (fun i => (vo (D i) (wd i)).1), lv n (m + k) fun j => if j < k then vn (D j) else D j)
  | 0, _ => by
    show ([], lv n m D) = _
    simp
  | k + 1, h => by
    have ih := voices_lv (n := n) m D wd k (by omega)
    unfold AS.voices
    rw [ih]
    show (if ((lv n (m + k) fun j => if j < k then vn (D j) else D j).voice k (wd k)).1.1 = true then _ else _, _) = _
    rw [voice_lv (n := n) (i := k) (m + k) (by omega)]
    have e : (if k < k then vn (D k) else D k) = D k := if_neg (by omega)
    rw [e, List.range_succ, List.filter_append]
    congr 1
    · cases hv : (vo (D k) (wd k)).1 <;> simp [hv]
    · show lv n (m + k + 1) _ = lv n (m + (k + 1)) _
      congr 1
      funext j
      unfold upd
      by_cases h1 : j = k
      · subst h1; simp
      · by_cases h2 : j < k
        · have h3 : j < k + 1 := by omega
          simp [h1, h2, h3]
        · have h3 : ¬ j < k + 1 := by omega
          simp [h1, h2, h3]
theorem filter_one (a : Nat) (g : Nat → Bool) (h : ∀ i, g i = decide (i ≠ a)) : ∀ k, ((List.range k).filter g).length = if a < k then k - 1 else k
  | 0 => by simp
  | k + 1 => by
    have ih := filter_one a g h k
    rw [List.range_succ, List.filter_append, List.length_append, ih]
    by_cases e : k = a
    · subst e
      have : g k = false := by rw [h]; simp
      simp [this]
    · have : g k = true := by rw [h]; simp [e]
      rw [List.filter_cons_of_pos this]
      by_cases h1 : a < k
      · rw [if_pos h1, if_pos (by omega)]
        simp; omega
      · rw [if_neg h1, if_neg (by omega)]
        simp
theorem flip_at (c : List UInt8) (a m : Nat) : ∀ k, (flipl c a m (k + 1))[a]? = c[a]?.map fun y => fby y m 0
  | 0 => by
    unfold flipl flipl
    rw [Nat.add_zero]
    cases h : c[a]? with
    | none => simp [h]
    | some y =>
      have := (List.getElem?_eq_some_iff.1 h).1
      simp [this]
  | k + 1 => by
    rw [flipl]
    have ih := flip_at c a m k
    split
    · rw [List.getElem?_set_ne (by omega), ih]
    · exact ih
set_option maxRecDepth 100000 in
theorem flip_ne (c : List UInt8) (a : Nat) (h : a < c.length) : (flipl c a 1 4 == c) = false := by
  rw [beq_eq_false_iff_ne]
  intro e
  have h1 := flip_at c a 1 3
  rw [e, List.getElem?_eq_getElem h] at h1
  have h2 := Option.some.inj h1
  generalize c[a] = y at h2
  have h3 : y.toNat = (y.toNat ^^^ 1) % 256 := by
    have h5 : y = fby y 1 0 := h2
    have h6 := congrArg UInt8.toNat h5
    rw [fby, UInt8.toNat_ofNat'] at h6
    exact h6
  have h4 : ∀ n : Fin 256, n.val ≠ (n.val ^^^ 1) % 256 := by decide
  exact h4 ⟨y.toNat, y.toNat_lt⟩ h3
theorem flip_lv (c : List UInt8) (s : Bool) (a : Int) (h : 0 ≤ a ∧ a < c.length) : flipok fmtP a (fF c s) = true ∧ dflip fmtP a 1 (ok1 (fF c s)) = ok1 (fF (flipl c a.toNat 1 4) s) := by
  have hg : get fmtP (fF c s) = some ⟨c, s⟩ := by simp
  constructor
  · unfold flipok
    rw [hg]
    exact decide_eq_true h
  · unfold dflip
    rw [show get fmtP (ok1 (fF c s)).fs = some ⟨c, s⟩ from hg]
    simp only
    rw [if_pos h]
    simp
theorem fmtB_len (K M i : Nat) : (fmtB K M i).length = 11 := rfl
theorem fmtB_inj (K M i j : Nat) (hi : i < 256) (hj : j < 256) : (fmtB K M i == fmtB K M j) = decide (j = i) := by
  by_cases e : j = i
  · subst e; simp
  · rw [decide_eq_false e, beq_eq_false_iff_ne]
    intro h
    have h1 := congrArg (fun l => l[6]?) h
    have h2 : UInt8.ofNat i = UInt8.ofNat j := Option.some.inj h1
    have h3 := congrArg UInt8.toNat h2
    rw [UInt8.toNat_ofNat_of_lt' hi, UInt8.toNat_ofNat_of_lt' hj] at h3
    exact e h3.symm
/-- The first i disks are formatted. -/
def DF (K M i : Nat) : Nat → DS := fun j => if j < i then ok1 (fF (fmtB K M j) true) else ok1 []
theorem DF_step (K M i : Nat) : upd (DF K M i) i (ok1 (fF (fmtB K M i) true)) = DF K M (i + 1) := by
  funext j
  unfold upd DF
  by_cases h1 : j = i
  · subst h1; rw [if_pos rfl, if_pos (by omega)]
  · rw [if_neg h1]
    by_cases h2 : j < i
    · rw [if_pos h2, if_pos (by omega)]
    · rw [if_neg h2, if_neg (by omega)]
theorem DF_save {n i : Nat} (K M m : Nat) (hi : i < n) : (lv n m (DF K M i)).save i fmtP (fmtB K M i) = (0, lv n (m + 3) (DF K M (i + 1))) := by
  rw [← DF_step]
  exact save_lv m hi (fs := []) (by unfold DF; rw [if_neg (by omega)]) (.inl rfl) _ (by rw [fmtB_len]; decide)
/-- All that ArrayFormats does behind the formats. -/
theorem formats_plain {n : Nat} (K M a o m j : Nat) {D : Nat → DS} (hD : ∀ i, i < n → D i = ok1 (fF (fmtB K M i) true)) (ha : a < n) (ho : o < n) (hn : n ≤ 200) (hj : j < 11) :
    (lv n m D).read o fmtP = ((0, fmtB K M o), lv n (m + 1) D) ∧
    ((lv n (m + 1) D).op a fun z d => writes z d fmtP (fmtB K M o)) = (0, lv n (m + 2) (upd D a (ok1 (fF (fmtB K M o) false)))) ∧
    (lv n (m + 2) (upd D a (ok1 (fF (fmtB K M o) false)))).voice a (fmtB K M a) = ((decide (a = o), 0), lv n (m + 3) (upd D a (ok1 (fF (fmtB K M o) false)))) ∧
    (lv n (m + 3) (upd D a (ok1 (fF (fmtB K M o) false)))).save a fmtP (fmtB K M a) = (0, lv n (m + 6) (upd D a (ok1 (fF (fmtB K M a) true)))) ∧
    flipok fmtP (j : Nat) ((lv n (m + 6) (upd D a (ok1 (fF (fmtB K M a) true)))).ds.getD a dz).fs = true ∧
    (lv n (m + 6) (upd D a (ok1 (fF (fmtB K M a) true)))).on a (dflip fmtP (j : Nat) 1) = lv n (m + 6) (upd D a (ok1 (fF (flipl (fmtB K M a) j 1 4) true))) ∧
    (lv n (m + 6) (upd D a (ok1 (fF (flipl (fmtB K M a) j 1 4) true)))).voice a (fmtB K M a) = ((false, 0), lv n (m + 7) (upd D a (ok1 (fF (flipl (fmtB K M a) j 1 4) true)))) ∧
    ((lv n (m + 7) (upd D a (ok1 (fF (flipl (fmtB K M a) j 1 4) true)))).op a fun z d => deletes z d fmtP) = (0, lv n (m + 8) (upd D a (ok1 []))) ∧
    (lv n (m + 8) (upd D a (ok1 []))).voice a (fmtB K M a) = ((false, 0), lv n (m + 9) (upd D a (ok1 []))) ∧
    ((lv n (m + 9) (upd D a (ok1 []))).voices (fmtB K M) n).1.length = n - 1 := by
  have hl : ∀ i, (fmtB K M i).length ≤ 100 := fun i => by rw [fmtB_len]; decide
  have vok : ∀ c s w, vo (ok1 (fF c s)) w = (c == w, 0) := fun c s w => by simp [vo]
  have von : ∀ w, vo (ok1 []) w = (false, 0) := fun w => by simp [vo]
  have hv : ∀ (m : Nat) (c : List UInt8) (s : Bool), (lv n m (upd D a (ok1 (fF c s)))).voice a (fmtB K M a) = ((c == fmtB K M a, 0), lv n (m + 1) (upd D a (ok1 (fF c s)))) := fun m c s => by
    rw [voice_lv m ha, upd_same, vok, upd_upd]; rfl
  have fl := flip_lv (fmtB K M a) true (j : Nat) (by rw [fmtB_len]; omega)
  refine ⟨read_lv m ho (hD o ho), ?_, ?_, ?_, ?_, ?_, ?_, ?_, ?_, ?_⟩
  · exact lv_op ha (by rw [hD a ha]; exact lv_wf (m + 1) _ (.inr ⟨_, _, rfl, hl _⟩) _ (hl _))
  · rw [hv (m + 2), fmtB_inj K M o a (by omega) (by omega)]
  · rw [save_lv (m + 3) ha (upd_same ..) (.inr ⟨_, _, rfl, hl _⟩) _ (hl _), upd_upd]
  · rw [lv_get _ _ ha, upd_same]; exact fl.1
  · rw [lv_on _ _ ha, upd_same, fl.2, upd_upd]; rfl
  · rw [hv (m + 6), flip_ne _ _ (by rw [fmtB_len]; exact hj)]
  · have := lv_op (n := n) (m := m + 7) (D := upd D a (ok1 (fF (flipl (fmtB K M a) j 1 4) true))) ha (f := fun z d => deletes z d fmtP) (by rw [upd_same]; exact lv_d (m + 7) _ _)
    rw [upd_upd] at this
    exact this
  · rw [voice_lv (m + 8) ha, upd_same, von, upd_upd]; rfl
  · rw [voices_lv (n := n) (m + 9) _ _ n (Nat.le_refl _)]
    show ((List.range n).filter _).length = _
    rw [List.filter_congr (q := fun i => decide (i ≠ a)) fun i hi => ?_, filter_one a _ (fun _ => rfl), if_pos ha]
    by_cases e : i = a
    · subst e
      rw [upd_same, von]; simp
    · rw [upd_other _ _ e, hD i (List.mem_range.1 hi), vok]
      simp [e]
theorem snd_ok {fs : L Fil} (hf : Fs fs) : Snd (ok1 fs) := by
  rcases hf with rfl | ⟨c, s, rfl, hc⟩
  · exact ⟨Up.nil, by simp, by simp, by simp⟩
  · exact ⟨List.pairwise_singleton _ _, by simp, by simp; omega, by simp⟩
theorem lv_snd {n : Nat} (m : Nat) {D : Nat → DS} (hn : n ≤ 255) (h : ∀ j, j < n → Snd (D j)) : ASnd (lv n m D) m :=
  ⟨fun d hd => by
    obtain ⟨j, hj, rfl⟩ := List.mem_map.1 (show d ∈ (List.range n).map D from hd)
    exact h j (List.mem_range.1 hj), Nat.le_refl _, by rw [lv_len]; exact hn⟩
theorem upd_snd {n a : Nat} {D : Nat → DS} (h : ∀ j, j < n → Snd (D j)) {d : DS} (hd : Snd d) : ∀ j, j < n → Snd (upd D a d j) := fun j hj => by
  by_cases e : j = a
  · subst e; rw [upd_same]; exact hd
  · rw [upd_other _ _ e]; exact h j hj
theorem fmt_snd (K M i : Nat) (s : Bool) : Snd (ok1 (fF (fmtB K M i) s)) := snd_ok (.inr ⟨_, _, rfl, by rw [fmtB_len]; decide⟩)
theorem flp_snd (K M i j : Nat) (s : Bool) : Snd (ok1 (fF (flipl (fmtB K M i) j 1 4) s)) := snd_ok (.inr ⟨_, _, rfl, by rw [flipl_length, fmtB_len]; decide⟩)
theorem DF_snd (K M i j : Nat) : Snd (DF K M i j) := by
  unfold DF
  split
  · exact fmt_snd ..
  · exact snd_ok (.inl rfl)
end Dk
end Go.Proofs.YthkbbcdnmdjhdaaGreat
