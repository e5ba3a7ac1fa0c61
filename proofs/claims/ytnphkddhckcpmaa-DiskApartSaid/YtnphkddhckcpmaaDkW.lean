/-
  DiskApart: the plain law (a fuse that is not set changes nothing).
-/
import Derived.Test.YtnphkddhckcpmaaDkV
import Derived.LaidEqlPtr
namespace Go.Proofs.Ytnphkddhckcpmaa
open Go.RowKit Dk
set_option maxRecDepth 100000
set_option maxHeartbeats 4000000

theorem begins_fuse (d : DS) (k : Nat) (ps : List Path) : begins (some ⟨0, k, false⟩) d ps = ((begins none d ps).1, some ⟨0, k + 1, false⟩, (begins none d ps).2.2) := by
  obtain ⟨mo, of, ba, fs⟩ := d
  cases of <;> cases ba <;> cases h : ps.all okP <;> simp [begins, ticks, h]
theorem opens_fuse (d : DS) (k : Nat) (p : Path) (more : List Path) : opens (some ⟨0, k, false⟩) d p more = opens none d p more := by
  unfold opens; rw [begins_fuse]
theorem writes_fuse (d : DS) (k : Nat) (p : Path) (b : List UInt8) : writes (some ⟨0, k, false⟩) d p b = ((writes none d p b).1, some ⟨0, k + 1, false⟩, (writes none d p b).2.2) := by
  unfold writes
  rw [begins_fuse]
  obtain ⟨mn, hmn⟩ : ∃ mn, (if (get p d.fs).isSome then d.fs.length else d.fs.length + 1) = mn := ⟨_, rfl⟩
  rw [hmn]
  by_cases h1 : (begins none d [p]).1 ≠ 0
  · simp only [if_pos h1]
  · simp only [if_neg h1]
    by_cases h2 : 262144 < b.length
    · simp only [if_pos h2]
    · simp only [if_neg h2]
      by_cases h3 : d.most + olen p d.fs < tot d.fs + b.length ∨ 4096 < mn
      · simp only [if_pos h3]
      · simp only [if_neg h3]
theorem deletes_fuse (d : DS) (k : Nat) (p : Path) : deletes (some ⟨0, k, false⟩) d p = ((deletes none d p).1, some ⟨0, k + 1, false⟩, (deletes none d p).2.2) := by
  unfold deletes
  rw [begins_fuse, opens_fuse]
  split <;> rfl
/-- How much is on a disk behind i deeds. -/
def FB (d : DS) (i : Nat) : Prop := Up d.fs ∧ d.fs.length ≤ i ∧ tot d.fs ≤ i * 5000
theorem FB.new (n : Nat) : FB ⟨n, false, 0, []⟩ 0 := ⟨Up.nil, Nat.le_refl _, Nat.le_refl _⟩
theorem FB.more {d : DS} {i : Nat} (h : FB d i) : FB d (i + 1) := ⟨h.1, by have := h.2.1; omega, by have := h.2.2; omega⟩
theorem FB.same {d d' : DS} {i : Nat} (h : FB d i) (e : d'.fs = d.fs) : FB d' i := ⟨by rw [e]; exact h.1, by rw [e]; exact h.2.1, by rw [e]; exact h.2.2⟩
theorem FB.write {d : DS} {i : Nat} (h : FB d i) (p : Path) {b : List UInt8} (hb : b.length ≤ 5000) : FB (writes none d p b).2.2 (i + 1) := by
  unfold writes
  obtain ⟨mn, hmn⟩ : ∃ mn, (if (get p d.fs).isSome then d.fs.length else d.fs.length + 1) = mn := ⟨_, rfl⟩
  rw [hmn]
  have hB : FB (begins none d [p]).2.2 (i + 1) := (h.more).same (begins_fs none d [p])
  by_cases h1 : (begins none d [p]).1 ≠ 0
  · simp only [if_pos h1]; exact hB
  · simp only [if_neg h1]
    by_cases h2 : 262144 < b.length
    · simp only [if_pos h2]; exact hB
    · simp only [if_neg h2]
      by_cases h3 : d.most + olen p d.fs < tot d.fs + b.length ∨ 4096 < mn
      · simp only [if_pos h3]; exact hB
      · simp only [if_neg h3]
        refine ⟨put_up h.1, ?_, ?_⟩
        · show (put p ⟨b, false⟩ d.fs).length ≤ i + 1
          rw [put_length h.1]
          have := h.2.1
          split <;> omega
        · show tot (put p ⟨b, false⟩ d.fs) ≤ (i + 1) * 5000
          have h1 := tot_put h.1 p ⟨b, false⟩
          have h2 := h.2.2
          have h3 : (⟨b, false⟩ : Fil).b.length = b.length := rfl
          omega
theorem FB.delete {d : DS} {i : Nat} (h : FB d i) (p : Path) : FB (deletes none d p).2.2 (i + 1) := by
  unfold deletes
  split
  · refine ⟨del_up h.1 p, ?_, ?_⟩
    · show (del p d.fs).length ≤ i + 1
      have h1 := del_length h.1 p
      have := h.2.1
      omega
    · show tot (del p d.fs) ≤ (i + 1) * 5000
      have h1 := tot_del h.1 p
      have h2 := h.2.2
      omega
  · exact (h.more).same (begins_fs none d [p])
theorem FB.wipe (d : DS) (i : Nat) : FB { d with fs := [] } i := ⟨Up.nil, Nat.zero_le _, Nat.zero_le _⟩
def z0 (k : Nat) : Option FS := some ⟨0, k, false⟩
/-- Two disks with one fuse, and one with another, that has what the first has. -/
structure AInv (w wr : World) (f g sa sb sc kf kg i : Nat) (dA dB : DS) (SA SB SC : Nat → Prop) : Prop where
  hf : FzAt wr (some f) (z0 kf)
  hg : FzAt wr (some g) (z0 kg)
  ha : SimAt wr sa (some f) dA SA
  hb : SimAt wr sb (some f) dB SB
  hc : SimAt wr sc (some g) dA SC
  fa : FB dA i
  fb : FB dB i
  ab : ∀ b, SA b → ¬ SB b
  ac : ∀ b, SA b → ¬ SC b
  bc : ∀ b, SB b → ¬ SC b
  ag : ∀ b, some g = some b → ¬ SA b
  bg : ∀ b, some g = some b → ¬ SB b
  cf : ∀ b, some f = some b → ¬ SC b
  fg : ¬ f = g
  wa : ∀ b, SA b → w.heap.size ≤ b
  wb : ∀ b, SB b → w.heap.size ≤ b
  wc : ∀ b, SC b → w.heap.size ≤ b
  wf : w.heap.size ≤ f
  wg : w.heap.size ≤ g
  kk : kg ≤ kf
  ki : kf ≤ i
  ex : Ext w wr
theorem AInv.ext {w wr w' : World} {f g sa sb sc kf kg i : Nat} {dA dB : DS} {SA SB SC : Nat → Prop} (h : AInv w wr f g sa sb sc kf kg i dA dB SA SB SC) (x : Ext wr w') : AInv w w' f g sa sb sc kf kg i dA dB SA SB SC :=
  { h with
    hf := h.hf.chg (Chg.of_ext x (fun _ => False)) (fun _ _ h => h)
    hg := h.hg.chg (Chg.of_ext x (fun _ => False)) (fun _ _ h => h)
    ha := h.ha.ext x
    hb := h.hb.ext x
    hc := h.hc.ext x
    ex := Ext.trans h.ex x }
theorem AInv.idle {w wr : World} {f g sa sb sc kf kg i : Nat} {dA dB : DS} {SA SB SC : Nat → Prop} (h : AInv w wr f g sa sb sc kf kg i dA dB SA SB SC) : AInv w wr f g sa sb sc kf kg (i + 1) dA dB SA SB SC :=
  { h with fa := h.fa.more, fb := h.fb.more, ki := Nat.le_succ_of_le h.ki }
/-- What is done on the second disk. -/
theorem AInv.stepB {w wr w' : World} {f g sa sb sc kf kg i kf' : Nat} {dA dB dB' : DS} {SA SB SC : Nat → Prop} (h : AInv w wr f g sa sb sc kf kg i dA dB SA SB SC) (hk : kf ≤ kf' ∧ kf' ≤ i + 1) (hz : FzAt w' (some f) (z0 kf'))
    (hS : SimAt w' sb (some f) dB' (Grow SB wr w')) (hc : Chg (fun b => SB b ∨ some f = some b) wr w') (hB : FB dB' (i + 1)) : AInv w w' f g sa sb sc kf' kg (i + 1) dA dB' SA (Grow SB wr w') SC := by
  have q1 := h.ex.size
  have ltA := h.ha.lt
  have ltC := h.hc.lt
  have ltG := fun b hb => h.hg.lt b hb
  exact {
    hf := hz
    hg := h.hg.chg hc (fun b hb hx => hx.elim (h.bg b hb) fun hx => by cases hb; cases hx; exact h.fg rfl)
    ha := h.ha.chg hc (fun b hb hx => hx.elim (h.ab b hb) fun hx => h.ha.fuse b hx hb)
    hb := hS
    hc := h.hc.chg hc (fun b hb hx => hx.elim (fun hx => h.bc b hx hb) fun hx => h.cf b hx hb)
    fa := h.fa.more
    fb := hB
    ab := fun b hb hx => hx.elim (h.ab b hb) fun hx => by have := ltA b hb; omega
    ac := h.ac
    bc := fun b hx hb => hx.elim (fun hx => h.bc b hx hb) fun hx => by have := ltC b hb; omega
    ag := h.ag
    bg := fun b hb hx => hx.elim (h.bg b hb) fun hx => by have := ltG b hb; omega
    cf := h.cf
    fg := h.fg
    wa := h.wa
    wb := fun b hx => hx.elim (h.wb b) fun hx => Nat.le_trans q1 hx.1
    wc := h.wc
    wf := h.wf
    wg := h.wg
    kk := Nat.le_trans h.kk hk.1
    ki := hk.2
    ex := Chg.after2 h.ex hc (fun b hx => hx.elim (h.wb b) fun hx => by cases hx; exact h.wf) }
/-- Behind what was done on the first disk the third is as it was. -/
theorem AInv.midC {w wr w' : World} {f g sa sb sc kf kg i : Nat} {dA dB : DS} {SA SB SC : Nat → Prop} (h : AInv w wr f g sa sb sc kf kg i dA dB SA SB SC) (hc : Chg (fun b => SA b ∨ some f = some b) wr w') : SimAt w' sc (some g) dA SC ∧ FzAt w' (some g) (z0 kg) :=
  ⟨h.hc.chg hc (fun b hb hx => hx.elim (fun hx => h.ac b hx hb) fun hx => h.cf b hx hb), h.hg.chg hc (fun b hb hx => hx.elim (h.ag b hb) fun hx => by cases hb; cases hx; exact h.fg rfl)⟩
/-- What is done on the first disk and on the third. -/
theorem AInv.stepA {w wr w' w'' : World} {f g sa sb sc kf kg i kf' kg' : Nat} {dA dB dA' : DS} {SA SB SC : Nat → Prop} (h : AInv w wr f g sa sb sc kf kg i dA dB SA SB SC) (hk : kg' ≤ kf' ∧ kf' ≤ i + 1) (hz : FzAt w' (some f) (z0 kf'))
    (hS : SimAt w' sa (some f) dA' (Grow SA wr w')) (hc : Chg (fun b => SA b ∨ some f = some b) wr w') (hA : FB dA' (i + 1)) (hz2 : FzAt w'' (some g) (z0 kg')) (hS2 : SimAt w'' sc (some g) dA' (Grow SC w' w'')) (hc2 : Chg (fun b => SC b ∨ some g = some b) w' w'') :
    AInv w w'' f g sa sb sc kf' kg' (i + 1) dA' dB (Grow SA wr w') SB (Grow SC w' w'') := by
  have q1 := h.ex.size
  have q2 := hc.size
  have ltB := h.hb.lt
  have ltC := h.hc.lt
  have ltF := fun b hb => h.hf.lt b hb
  have ltG := fun b hb => h.hg.lt b hb
  have ltA' := hS.lt
  have acG : ∀ b, Grow SA wr w' b → ¬ SC b := fun b hx hb => hx.elim (fun hx => h.ac b hx hb) fun hx => by have := ltC b hb; omega
  have agG : ∀ b, some g = some b → ¬ Grow SA wr w' b := fun b hb hx => hx.elim (h.ag b hb) fun hx => by have := ltG b hb; omega
  have ex1 : Ext w w' := Chg.after2 h.ex hc (fun b hx => hx.elim (h.wa b) fun hx => by cases hx; exact h.wf)
  exact {
    hf := hz.chg hc2 (fun b hb hx => hx.elim (h.cf b hb) fun hx => by cases hb; cases hx; exact h.fg rfl)
    hg := hz2
    ha := hS.chg hc2 (fun b hb hx => hx.elim (acG b hb) fun hx => agG b hx hb)
    hb := (h.hb.chg hc (fun b hb hx => hx.elim (fun hx => h.ab b hx hb) fun hx => h.hb.fuse b hx hb)).chg hc2 (fun b hb hx => hx.elim (h.bc b hb) fun hx => h.bg b hx hb)
    hc := hS2
    fa := hA
    fb := h.fb.more
    ab := fun b hx hb => hx.elim (fun hx => h.ab b hx hb) fun hx => by have := ltB b hb; omega
    ac := fun b hb hx => hx.elim (acG b hb) fun hx => by have := ltA' b hb; omega
    bc := fun b hb hx => hx.elim (h.bc b hb) fun hx => by have := ltB b hb; omega
    ag := agG
    bg := h.bg
    cf := fun b hb hx => hx.elim (h.cf b hb) fun hx => by have := ltF b hb; omega
    fg := h.fg
    wa := fun b hx => hx.elim (h.wa b) fun hx => Nat.le_trans q1 hx.1
    wb := h.wb
    wc := fun b hx => hx.elim (h.wc b) fun hx => Nat.le_trans (Nat.le_trans q1 q2) hx.1
    wf := h.wf
    wg := h.wg
    kk := hk.1
    ki := hk.2
    ex := Chg.after2 ex1 hc2 (fun b hx => hx.elim (h.wc b) fun hx => by cases hx; exact h.wg) }
theorem SimAt.self {w : World} {s : Nat} {fp : Option Nat} {d : DS} {S : Nat → Prop} (h : SimAt w s fp d S) : S s := by
  obtain ⟨_, _, _, h2, _⟩ := h; exact h2 s (.inl rfl)
theorem AInv.wipeB {w wr w' : World} {f g sa sb sc kf kg i : Nat} {dA dB : DS} {SA SB SC : Nat → Prop} (h : AInv w wr f g sa sb sc kf kg i dA dB SA SB SC)
    (hS : SimAt w' sb (some f) { dB with fs := [] } SB) (hc : Chg SB wr w') : AInv w w' f g sa sb sc kf kg (i + 1) dA { dB with fs := [] } SA (Grow SB wr w') SC :=
  h.stepB ⟨Nat.le_refl _, Nat.le_succ_of_le h.ki⟩ (h.hf.chg hc fun b hb => h.hb.fuse b hb) (by
    obtain ⟨m, es, h1, h2, h3, h4⟩ := hS
    exact ⟨m, es, h1, fun b hb => .inl (h2 b hb), fun b hb => hb.elim (h3 b) fun hx => hx.2, fun b hb hx => hx.elim (h4 b hb) fun hx => by have := h.hf.lt b hb; omega⟩) (hc.mono fun b _ hb => .inl hb) (FB.wipe dB (i + 1))
theorem SimAt.grown {w w' : World} {s : Nat} {fp : Option Nat} {d : DS} {S : Nat → Prop} (h : SimAt w' s fp d S) (hf : ∀ b, fp = some b → b < w.heap.size) : SimAt w' s fp d (Grow S w w') := by
  obtain ⟨m, es, h1, h2, h3, h4⟩ := h
  exact ⟨m, es, h1, fun b hb => .inl (h2 b hb), fun b hb => hb.elim (h3 b) fun hx => hx.2, fun b hb hx => hx.elim (h4 b hb) fun hx => by have := hf b hb; omega⟩
theorem AInv.wipeA {w wr w' w'' : World} {f g sa sb sc kf kg i : Nat} {dA dB : DS} {SA SB SC : Nat → Prop} (h : AInv w wr f g sa sb sc kf kg i dA dB SA SB SC)
    (hS : SimAt w' sa (some f) { dA with fs := [] } SA) (hc : Chg SA wr w') (hS2 : SimAt w'' sc (some g) { dA with fs := [] } SC) (hc2 : Chg SC w' w'') : AInv w w'' f g sa sb sc kf kg (i + 1) { dA with fs := [] } dB (Grow SA wr w') SB (Grow SC w' w'') := by
  have hz : FzAt w' (some f) (z0 kf) := h.hf.chg hc fun b hb => h.ha.fuse b hb
  have hz1 : FzAt w' (some g) (z0 kg) := h.hg.chg hc fun b hb => h.ag b hb
  have hz2 : FzAt w'' (some g) (z0 kg) := hz1.chg hc2 fun b hb => h.hc.fuse b hb
  exact h.stepA ⟨h.kk, Nat.le_succ_of_le h.ki⟩ hz (hS.grown fun b hb => h.hf.lt b hb) (hc.mono fun b _ hb => .inl hb) (FB.wipe dA (i + 1)) hz2 (hS2.grown fun b hb => hz1.lt b hb) (hc2.mono fun b _ hb => .inl hb)
theorem info_sim : (Try.prog.info? 77).map (fun i => decide (i.size = 0)) = some false := by kernel_rfl
theorem eql_sims {w : World} {s t : Nat} {fp fq : Option Nat} {d d' : DS} {S T : Nat → Prop} (h : SimAt w s fp d S) (k : SimAt w t fq d' T) (hn : ¬ s = t) : (binOp .eql 27 (.pointer (some ⟨s, 0, none⟩)) (.pointer (some ⟨t, 0, none⟩))).run Try.prog w = .ok (.bool false) w := by
  obtain ⟨m, es, h1, -⟩ := h
  obtain ⟨m', es', k1, -⟩ := k
  cases hj : Try.prog.info? 77 with
  | none => have := info_sim; rw [hj] at this; cases this
  | some j =>
    have hz := info_sim
    rw [hj] at hz
    simp only [Option.map_some, Option.some.injEq, decide_eq_false_iff_not] at hz
    exact run_eql_ptr_other w Try.underlying27 hj hz (fun e => hn (by cases e; rfl)) h1.row k1.row
theorem eql_sim (w : World) (s : Nat) : (binOp .eql 27 (.pointer (some ⟨s, 0, none⟩)) (.pointer (some ⟨s, 0, none⟩))).run Try.prog w = .ok (.bool true) w := by
  cases hj : Try.prog.info? 77 with
  | none => have := info_sim; rw [hj] at this; cases this
  | some j => exact run_eql_ptr_same w _ Try.underlying27 hj
end Go.Proofs.Ytnphkddhckcpmaa
