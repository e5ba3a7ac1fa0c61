/-
  DiskFuse.
-/
import Derived.Test.YtnphkddhckcpmaaDkL
namespace Go.Proofs.Ytnphkddhckcpmaa
open Go.RowKit Dk
set_option maxRecDepth 100000
set_option maxHeartbeats 4000000
attribute [local go_sem] min_int2 max_int2 bstr_toList

/-- A disk on which at most x was written. -/
def FGood (d : DS) : Prop := d.most = 9000 ∧ d.off = false ∧ d.bad = 0 ∧ (d.fs = [] ∨ ∃ f, d.fs = [([120], f)] ∧ f.b.length ≤ 5000)
theorem fgood_write {d : DS} (h : FGood d) (k dn : Nat) (hb : ¬ (0 < k ∧ k ≤ dn)) {b : List UInt8} (hl : b.length ≤ 5000) :
    ∃ d', writes (some ⟨k, dn, decide (0 < k ∧ k ≤ dn)⟩) d [120] b = (0, some ⟨k, dn + 1, decide (0 < k ∧ k ≤ dn + 1)⟩, d') ∧ FGood d' := by
  obtain ⟨mo, of, ba, fs⟩ := d
  obtain ⟨rfl, rfl, rfl, hfs⟩ := h
  have hbd : decide (0 < k ∧ k ≤ dn) = false := decide_eq_false hb
  have hbg : ∀ fs, begins (some ⟨k, dn, false⟩) ⟨9000, false, 0, fs⟩ [[120]] = (0, some ⟨k, dn + 1, decide (0 < k ∧ k ≤ dn + 1)⟩, ⟨9000, false, 0, fs⟩) := fun fs => by
    have e : decide (0 < (k : Int) ∧ (k : Int) ≤ (dn : Int) + 1) = decide (0 < k ∧ k ≤ dn + 1) := by
      by_cases c : 0 < k ∧ k ≤ dn + 1
      · rw [decide_eq_true c, decide_eq_true (by omega)]
      · rw [decide_eq_false c, decide_eq_false (by omega)]
    show (0, some (FS.mk _ _ (decide (0 < (k : Int) ∧ (k : Int) ≤ (dn : Int) + 1))), _) = _
    rw [e]
  rw [hbd]
  refine ⟨⟨9000, false, 0, [([120], ⟨b, false⟩)]⟩, ?_, rfl, rfl, rfl, .inr ⟨_, rfl, hl⟩⟩
  unfold writes
  rw [hbg]
  rcases hfs with hfs | ⟨f, hfs, hf⟩
  · have hfs : fs = [] := hfs
    subst hfs
    rw [if_neg (by simp), if_neg (by omega), if_neg]
    · rfl
    · show ¬ (9000 + 0 < 0 + b.length ∨ 4096 < 1); omega
  · have hfs : fs = [([120], f)] := hfs
    subst hfs
    rw [if_neg (by simp), if_neg (by omega), if_neg]
    · rfl
    · show ¬ (9000 + f.b.length < f.b.length + 0 + b.length ∨ 4096 < 1); omega
theorem fgood_blown {d : DS} (k dn : Nat) (hb : 0 < k ∧ k ≤ dn) (b : List UInt8) :
    writes (some ⟨k, dn, decide (0 < k ∧ k ≤ dn)⟩) d [120] b = (20, some ⟨k, dn, decide (0 < k ∧ k ≤ dn)⟩, d) := by
  rw [decide_eq_true hb]; rfl
theorem fgood_tot {d : DS} (h : FGood d) : tot d.fs ≤ 5000 ∧ d.fs.length ≤ 1 := by
  rcases h.2.2.2 with h | ⟨f, h, hf⟩
  · rw [h]; exact ⟨by show 0 ≤ 5000; omega, by simp⟩
  · rw [h]; exact ⟨by show f.b.length + 0 ≤ 5000; omega, by simp⟩
theorem fgood_y {d : DS} (h : FGood d) : ∃ d', writes (some ⟨0, 0, false⟩) d [121] [] = (0, some ⟨0, 1, false⟩, d') := by
  obtain ⟨mo, of, ba, fs⟩ := d
  obtain ⟨rfl, rfl, rfl, hfs⟩ := h
  rcases hfs with hfs | ⟨f, hfs, hf⟩
  · have hfs : fs = [] := hfs
    subst hfs
    exact ⟨_, by unfold writes; rw [if_neg (by decide), if_neg (by decide), if_neg (by decide)]; rfl⟩
  · have hfs : fs = [([120], f)] := hfs
    subst hfs
    refine ⟨⟨9000, false, 0, [([120], f), ([121], ⟨[], false⟩)]⟩, ?_⟩
    have hb : begins (some ⟨0, 0, false⟩) ⟨9000, false, 0, [([120], f)]⟩ [[121]] = (0, some ⟨0, 1, false⟩, ⟨9000, false, 0, [([120], f)]⟩) := rfl
    unfold writes
    rw [hb, if_neg (by simp), if_neg (by simp), if_neg]
    · rfl
    · show ¬ (9000 + 0 < f.b.length + 0 + 0 ∨ 4096 < 2); omega
/-- Two disks with one fuse. -/
structure FInv (w wr : World) (f sa sb k dn : Nat) (dA dB : DS) (SA SB : Nat → Prop) : Prop where
  hz : FzAt wr (some f) (some ⟨k, dn, decide (0 < k ∧ k ≤ dn)⟩)
  ha : SimAt wr sa (some f) dA SA
  hb : SimAt wr sb (some f) dB SB
  ga : FGood dA
  gb : FGood dB
  dj : ∀ b, SA b → ¬ SB b
  ba : ∀ b, SA b → w.heap.size ≤ b
  bb : ∀ b, SB b → w.heap.size ≤ b
  bf : w.heap.size ≤ f
  ex : Ext w wr
theorem FInv.flip {w wr : World} {f sa sb k dn : Nat} {dA dB : DS} {SA SB : Nat → Prop} (h : FInv w wr f sa sb k dn dA dB SA SB) : FInv w wr f sb sa k dn dB dA SB SA :=
  ⟨h.hz, h.hb, h.ha, h.gb, h.ga, fun b hb ha => h.dj b ha hb, h.bb, h.ba, h.bf, h.ex⟩
theorem SimAt.fuse {w : World} {s : Nat} {fp : Option Nat} {d : DS} {S : Nat → Prop} (h : SimAt w s fp d S) : ∀ b, fp = some b → ¬ S b := by obtain ⟨_, _, _, _, _, h4⟩ := h; exact h4
theorem SimAt.lt {w : World} {s : Nat} {fp : Option Nat} {d : DS} {S : Nat → Prop} (h : SimAt w s fp d S) : ∀ b, S b → b < w.heap.size := by obtain ⟨_, _, _, _, h3, _⟩ := h; exact h3
/-- A write on the first of them. -/
theorem FInv.write {w wr w' : World} {f sa sb k dn dn' : Nat} {dA dB dA' : DS} {SA SB : Nat → Prop} (h : FInv w wr f sa sb k dn dA dB SA SB) (hg : FGood dA')
    (hz : FzAt w' (some f) (some ⟨k, dn', decide (0 < k ∧ k ≤ dn')⟩)) (ha : SimAt w' sa (some f) dA' (Grow SA wr w')) (hc : Chg (fun b => SA b ∨ some f = some b) wr w') : FInv w w' f sa sb k dn' dA' dB (Grow SA wr w') SB :=
  ⟨hz, ha, h.hb.chg hc (fun b hb hx => by
    rcases hx with hx | hx
    · exact h.dj b hx hb
    · exact h.hb.fuse b hx hb), hg, h.gb, fun b hx hb => by
    rcases hx with hx | hx
    · exact h.dj b hx hb
    · have := h.hb.lt b hb; omega, fun b hx => hx.elim (h.ba b) fun hx => Nat.le_trans h.ex.size hx.1, h.bb, h.bf, Chg.after2 h.ex hc (fun b hx => by
    rcases hx with hx | hx
    · exact h.ba b hx
    · cases hx; exact h.bf)⟩
theorem fuse_any (w : World) (n : UInt8) (v : Value) (l : List Deed) (hV : Deeds w v l) (hl : l.length ≤ maxLen) :
    Calls Try.prog 3 #[bv n, v] w fun e w' => e = .returned (.bool true) ∧ Ext w w' := by
  obtain ⟨a, c, rfl⟩ := hV.form
  have HV := Lib.hid hV
  have HL := Lib.hid hl
  clear hV hl
  obtain ⟨k, hk⟩ : ∃ k : Nat, n.toNat % 40 = k := ⟨_, rfl⟩
  have ek : Go.RowKit.wrap64 (n.toNat : Int) % 40 = (k : Int) := by
    have := n.toNat_lt
    rw [show Go.RowKit.wrap64 (n.toNat : Int) = (n.toNat : Int) from by unfold Go.RowKit.wrap64; omega, ← hk]
    norm_cast
  have ek2 : (Go.RowKit.wrap64 (n.toNat : Int)).tmod 40 = (k : Int) := by
    have := n.toNat_lt
    rw [show Go.RowKit.wrap64 (n.toNat : Int) = (n.toNat : Int) from by unfold Go.RowKit.wrap64; omega, ← hk]
    exact (Int.ofNat_tmod _ 40).symm
  have k40 : k < 40 := by omega
  have EK := Lib.hid (And.intro ek ek2)
  clear hk ek ek2
  go_enter Try.func3, Try.ntmps3
  go_wp2_with fail
  refine (dawake_any _).mono ?_; rintro e w1 ⟨rfl, x1⟩
  have HV1 := Lib.hid (HV.out.ext x1)
  have X1 := Lib.hid x1
  clear x1
  go_wp2_with fail
  by_cases hR : l.length ≤ 80 ∧ ∀ x ∈ l, x.small
  case neg =>
    have HR := Lib.hid hR
    clear hR
    refine (room_any _ l 80 false (by omega) ⟨(fun h => Bool.noConfusion h), fun h => absurd h HR.out⟩ HL.out _ HV1.out).mono ?_; rintro e w' ⟨rfl, rfl⟩
    go_wp2_with fail
    go_ret
    exact ⟨rfl, X1.out⟩
  have HR := Lib.hid hR
  have hl80 : l.length ≤ 80 := hR.1
  clear hR
  refine (room_any _ l 80 true (by omega) ⟨fun _ => HR.out, fun _ => rfl⟩ HL.out _ HV1.out).mono ?_; rintro e w' ⟨rfl, rfl⟩
  go_wp2_with fail
  refine (newfuse_any _).mono ?_; rintro e w2 ⟨rfl, hz, x2, hsz⟩
  obtain ⟨f, hf⟩ : ∃ f, w1.heap.size = f := ⟨_, rfl⟩
  rw [hf] at hz ⊢
  have HZ2 := Lib.hid hz
  have HF := Lib.hid (And.intro hf hsz)
  have X2 := Lib.hid x2
  clear hz x2 hf hsz
  go_wp2_with fail
  refine (new_any 9000 (some f) _ (fun b hb => HZ2.out.lt b hb)).mono ?_; rintro e w3 ⟨rfl, hS, x3⟩
  obtain ⟨sa, hsa⟩ : ∃ s, w2.heap.size + 1 = s := ⟨_, rfl⟩
  rw [hsa] at hS ⊢
  have HA3 := Lib.hid (show SimAt w3 sa (some f) ⟨9000, false, 0, []⟩ (Grow (fun _ => False) w2 w3) from hS)
  have HZ3 := Lib.hid (HZ2.out.chg (Chg.of_ext x3 (fun _ => False)) (fun _ _ h => h))
  have X3 := Lib.hid x3
  clear hS x3 hsa HZ2
  go_wp2_with fail
  refine (new_any 9000 (some f) _ (fun b hb => HZ3.out.lt b hb)).mono ?_; rintro e w4 ⟨rfl, hS, x4⟩
  obtain ⟨sb, hsb⟩ : ∃ s, w3.heap.size + 1 = s := ⟨_, rfl⟩
  rw [hsb] at hS ⊢
  have HB4 := Lib.hid (show SimAt w4 sb (some f) ⟨9000, false, 0, []⟩ (Grow (fun _ => False) w3 w4) from hS)
  have HA4 := Lib.hid (HA3.out.ext x4)
  have HZ4 := Lib.hid (HZ3.out.chg (Chg.of_ext x4 (fun _ => False)) (fun _ _ h => h))
  have X4 := Lib.hid x4
  clear hS x4 hsb HA3 HZ3
  go_wp2_with fail
  rw [EK.out.2]
  refine (fset_any f _ (k : Int) (by omega) _ HZ4.out).mono ?_; rintro e w5 ⟨rfl, hz, hg, hsz⟩
  have hI : FInv w w5 f sa sb k 0 ⟨9000, false, 0, []⟩ ⟨9000, false, 0, []⟩ (Grow (fun _ => False) w2 w3) (Grow (fun _ => False) w3 w4) := by
    have e0 : decide (0 < k ∧ k ≤ 0) = false := decide_eq_false (by omega)
    refine ⟨by rw [e0]; exact hz, HA4.out.chg hg (fun b hb hx => HA4.out.fuse b hx hb), HB4.out.chg hg (fun b hb hx => HB4.out.fuse b hx hb), ⟨rfl, rfl, rfl, .inl rfl⟩, ⟨rfl, rfl, rfl, .inl rfl⟩, ?_, ?_, ?_, ?_, ?_⟩
    · rintro b (hb | hb) (hc | hc)
      · exact hb
      · exact hb
      · exact hc
      · omega
    · rintro b (hb | hb)
      · exact hb.elim
      · exact Nat.le_trans (Nat.le_trans X1.out.size X2.out.size) hb.1
    · rintro b (hb | hb)
      · exact hb.elim
      · exact Nat.le_trans (Nat.le_trans (Nat.le_trans X1.out.size X2.out.size) X3.out.size) hb.1
    · rw [← HF.out.1]; exact X1.out.size
    · exact Chg.after2 (Ext.trans (Ext.trans (Ext.trans X1.out X2.out) X3.out) X4.out) hg (fun b hb => by cases hb; rw [← HF.out.1]; exact X1.out.size)
  have HI5 := Lib.hid hI
  have HV5 := Lib.hid ((((HV1.out.ext X2.out).ext X3.out).ext X4.out))
  clear hz hg hsz hI HA4 HB4 HZ4
  go_wp2_with fail
  go_loopw [9, 10] (fun v9 v10 wr => ∃ (i dn : Nat) (dA dB : DS) (SA SB : Nat → Prop), i ≤ l.length ∧ dn ≤ i ∧ (0 < k → dn ≤ k) ∧ v10 = .int .i64 (i : Nat) ∧ v9 = .int .i64 (dn : Nat) ∧ Hid (FInv w wr f sa sb k dn dA dB SA SB)) (fun _ v10 _ => (l.length - intOf v10).toNat)
  case atStart => exact ⟨0, 0, _, _, _, _, by omega, by omega, fun _ => by omega, rfl, rfl, HI5⟩
  case round =>
    obtain ⟨i, dn, dA, dB, SA, SB, hi, hdn, hdk, rfl, rfl, HI⟩ := hrel
    by_cases hlt : i < l.length
    · have hlt' : (i : Int) < (l.length : Int) := by omega
      have hx : l[i]? = some l[i] := List.getElem?_eq_getElem hlt
      have hsm := HR.out.2 _ (List.getElem_mem hlt)
      obtain ⟨x, hxx⟩ : ∃ x, l[i] = x := ⟨_, rfl⟩
      rw [hxx] at hx hsm
      have hzo : zops (some ⟨(k : Int), dn, decide (0 < k ∧ k ≤ dn)⟩) < 1099511627776 := by show dn < _; omega
      obtain ⟨ok, b, o, rfl, da, dc, c0, c1, c2, c3, c4, c5⟩ := (HV.out.ext HI.out.ex).at hx
      obtain ⟨xd, xn, xa, xb, xt⟩ := x
      simp only at c0 c1 c2 c3 c4 c5
      have HX := Lib.hid (And.intro ok (And.intro c5 hsm.2.2))
      clear ok c5 hsm hx hxx
      obtain ⟨r, hr⟩ : ∃ r, bits .and .i64 xn 1 = r := ⟨_, rfl⟩
      by_cases hr1 : r = 1
      · have q1 : (r == 1) = true := by simpa using hr1
        clear hr1
        have ok := HX.out.1
        go_wp2_with fail
        by_cases hbl : 0 < k ∧ k ≤ dn
        · refine (write_any sb (some f) _ dB SB [120] _ xt _ HI.out.hb HI.out.hz hzo (by decide) HX.out.2.1 (by have := HX.out.2.2; omega) (by have := (fgood_tot HI.out.gb).1; omega) (by have := (fgood_tot HI.out.gb).2; omega)).mono ?_
          rw [fgood_blown k dn hbl]; rintro e wq ⟨rfl, hz, hS, hg⟩
          have hI := HI.out.flip.write HI.out.gb hz hS hg
          have HN := Lib.hid hI.flip
          have q3 : (0 : Int) < (k : Int) := by omega
          have q4 : (k : Int) ≤ (dn : Int) := by omega
          have HBL := Lib.hid (decide_eq_true hbl)
          clear hz hS hg hI hbl
          go_wp2_with fail
          refine (blown_any f _ _ HN.out.hz).mono ?_; rintro e w' ⟨rfl, rfl⟩
          rw [show (FS.mk (k : Int) dn (decide (0 < k ∧ k ≤ dn))).blown = true from HBL.out]
          go_wp2_with fail
          exact ⟨⟨i + 1, dn, _, _, _, _, by omega, by omega, hdk, by go_num, rfl, HN⟩, by simp [intOf]; omega⟩
        · obtain ⟨d', hw, hgd⟩ := fgood_write HI.out.gb k dn hbl HX.out.2.2
          refine (write_any sb (some f) _ dB SB [120] _ xt _ HI.out.hb HI.out.hz hzo (by decide) HX.out.2.1 (by have := HX.out.2.2; omega) (by have := (fgood_tot HI.out.gb).1; omega) (by have := (fgood_tot HI.out.gb).2; omega)).mono ?_
          rw [hw]; rintro e wq ⟨rfl, hz, hS, hg⟩
          have hI := HI.out.flip.write hgd hz hS hg
          have HN := Lib.hid hI.flip
          clear hz hS hg hI hw hgd
          by_cases hk0 : k = 0
          · have q3 : (k : Int) ≤ 0 := by omega
            have q3' : decide (0 < (k : Int)) = false := by simpa using hk0
            have HBL : Hid (decide (0 < k ∧ k ≤ dn + 1) = false) := Lib.hid (decide_eq_false (by omega))
            have HK0 := Lib.hid hk0
            clear hbl hk0
            go_wp2_with fail
            refine (blown_any f _ _ HN.out.hz).mono ?_; rintro e w' ⟨rfl, rfl⟩
            rw [show (FS.mk (k : Int) (dn + 1) (decide (0 < k ∧ k ≤ dn + 1))).blown = false from HBL.out]
            go_wp2_with fail
            refine (ops_any f _ _ HN.out.hz).mono ?_; rintro e w' ⟨rfl, rfl⟩
            go_wp2_with fail
            exact ⟨⟨i + 1, dn + 1, _, _, _, _, by omega, by omega, (fun h => by have := HK0.out; omega), by go_num, by go_num, HN⟩, by simp [intOf]; omega⟩
          · have q3 : (0 : Int) < (k : Int) := by omega
            have q4 : (dn : Int) < (k : Int) := by omega
            by_cases hk1 : dn + 1 = k
            · have q5 : ((dn : Int) + 1 == (k : Int)) = true := by simp; omega
              have HBL : Hid (decide (0 < k ∧ k ≤ dn + 1) = true) := Lib.hid (decide_eq_true (by omega))
              have HK0 := Lib.hid hk1
              clear hbl hk0 hk1
              go_wp2_with fail
              refine (blown_any f _ _ HN.out.hz).mono ?_; rintro e w' ⟨rfl, rfl⟩
              rw [show (FS.mk (k : Int) (dn + 1) (decide (0 < k ∧ k ≤ dn + 1))).blown = true from HBL.out]
              go_wp2_with fail
              refine (ops_any f _ _ HN.out.hz).mono ?_; rintro e w' ⟨rfl, rfl⟩
              go_wp2_with fail
              exact ⟨⟨i + 1, dn + 1, _, _, _, _, by omega, by omega, (fun h => by have := HK0.out; omega), by go_num, by go_num, HN⟩, by simp [intOf]; omega⟩
            · have q5 : ((dn : Int) + 1 == (k : Int)) = false := by simp; omega
              have HBL : Hid (decide (0 < k ∧ k ≤ dn + 1) = false) := Lib.hid (decide_eq_false (by omega))
              have HK0 := Lib.hid hk1
              have HKL : Hid (dn + 1 ≤ k) := Lib.hid (by omega)
              clear hbl hk0 hk1
              go_wp2_with fail
              refine (blown_any f _ _ HN.out.hz).mono ?_; rintro e w' ⟨rfl, rfl⟩
              rw [show (FS.mk (k : Int) (dn + 1) (decide (0 < k ∧ k ≤ dn + 1))).blown = false from HBL.out]
              go_wp2_with fail
              refine (ops_any f _ _ HN.out.hz).mono ?_; rintro e w' ⟨rfl, rfl⟩
              go_wp2_with fail
              exact ⟨⟨i + 1, dn + 1, _, _, _, _, by omega, by omega, (fun _ => HKL.out), by go_num, by go_num, HN⟩, by simp [intOf]; omega⟩
      · have q1 : (r == 1) = false := by simpa using hr1
        clear hr1
        have ok := HX.out.1
        go_wp2_with fail
        by_cases hbl : 0 < k ∧ k ≤ dn
        · refine (write_any sa (some f) _ dA SA [120] _ xt _ HI.out.ha HI.out.hz hzo (by decide) HX.out.2.1 (by have := HX.out.2.2; omega) (by have := (fgood_tot HI.out.ga).1; omega) (by have := (fgood_tot HI.out.ga).2; omega)).mono ?_
          rw [fgood_blown k dn hbl]; rintro e wq ⟨rfl, hz, hS, hg⟩
          have hI := HI.out.write HI.out.ga hz hS hg
          have HN := Lib.hid hI
          have q3 : (0 : Int) < (k : Int) := by omega
          have q4 : (k : Int) ≤ (dn : Int) := by omega
          have HBL := Lib.hid (decide_eq_true hbl)
          clear hz hS hg hI hbl
          go_wp2_with fail
          refine (blown_any f _ _ HN.out.hz).mono ?_; rintro e w' ⟨rfl, rfl⟩
          rw [show (FS.mk (k : Int) dn (decide (0 < k ∧ k ≤ dn))).blown = true from HBL.out]
          go_wp2_with fail
          exact ⟨⟨i + 1, dn, _, _, _, _, by omega, by omega, hdk, by go_num, rfl, HN⟩, by simp [intOf]; omega⟩
        · obtain ⟨d', hw, hgd⟩ := fgood_write HI.out.ga k dn hbl HX.out.2.2
          refine (write_any sa (some f) _ dA SA [120] _ xt _ HI.out.ha HI.out.hz hzo (by decide) HX.out.2.1 (by have := HX.out.2.2; omega) (by have := (fgood_tot HI.out.ga).1; omega) (by have := (fgood_tot HI.out.ga).2; omega)).mono ?_
          rw [hw]; rintro e wq ⟨rfl, hz, hS, hg⟩
          have hI := HI.out.write hgd hz hS hg
          have HN := Lib.hid hI
          clear hz hS hg hI hw hgd
          by_cases hk0 : k = 0
          · have q3 : (k : Int) ≤ 0 := by omega
            have q3' : decide (0 < (k : Int)) = false := by simpa using hk0
            have HBL : Hid (decide (0 < k ∧ k ≤ dn + 1) = false) := Lib.hid (decide_eq_false (by omega))
            have HK0 := Lib.hid hk0
            clear hbl hk0
            go_wp2_with fail
            refine (blown_any f _ _ HN.out.hz).mono ?_; rintro e w' ⟨rfl, rfl⟩
            rw [show (FS.mk (k : Int) (dn + 1) (decide (0 < k ∧ k ≤ dn + 1))).blown = false from HBL.out]
            go_wp2_with fail
            refine (ops_any f _ _ HN.out.hz).mono ?_; rintro e w' ⟨rfl, rfl⟩
            go_wp2_with fail
            exact ⟨⟨i + 1, dn + 1, _, _, _, _, by omega, by omega, (fun h => by have := HK0.out; omega), by go_num, by go_num, HN⟩, by simp [intOf]; omega⟩
          · have q3 : (0 : Int) < (k : Int) := by omega
            have q4 : (dn : Int) < (k : Int) := by omega
            by_cases hk1 : dn + 1 = k
            · have q5 : ((dn : Int) + 1 == (k : Int)) = true := by simp; omega
              have HBL : Hid (decide (0 < k ∧ k ≤ dn + 1) = true) := Lib.hid (decide_eq_true (by omega))
              have HK0 := Lib.hid hk1
              clear hbl hk0 hk1
              go_wp2_with fail
              refine (blown_any f _ _ HN.out.hz).mono ?_; rintro e w' ⟨rfl, rfl⟩
              rw [show (FS.mk (k : Int) (dn + 1) (decide (0 < k ∧ k ≤ dn + 1))).blown = true from HBL.out]
              go_wp2_with fail
              refine (ops_any f _ _ HN.out.hz).mono ?_; rintro e w' ⟨rfl, rfl⟩
              go_wp2_with fail
              exact ⟨⟨i + 1, dn + 1, _, _, _, _, by omega, by omega, (fun h => by have := HK0.out; omega), by go_num, by go_num, HN⟩, by simp [intOf]; omega⟩
            · have q5 : ((dn : Int) + 1 == (k : Int)) = false := by simp; omega
              have HBL : Hid (decide (0 < k ∧ k ≤ dn + 1) = false) := Lib.hid (decide_eq_false (by omega))
              have HK0 := Lib.hid hk1
              have HKL : Hid (dn + 1 ≤ k) := Lib.hid (by omega)
              clear hbl hk0 hk1
              go_wp2_with fail
              refine (blown_any f _ _ HN.out.hz).mono ?_; rintro e w' ⟨rfl, rfl⟩
              rw [show (FS.mk (k : Int) (dn + 1) (decide (0 < k ∧ k ≤ dn + 1))).blown = false from HBL.out]
              go_wp2_with fail
              refine (ops_any f _ _ HN.out.hz).mono ?_; rintro e w' ⟨rfl, rfl⟩
              go_wp2_with fail
              exact ⟨⟨i + 1, dn + 1, _, _, _, _, by omega, by omega, (fun _ => HKL.out), by go_num, by go_num, HN⟩, by simp [intOf]; omega⟩
    · obtain rfl : i = l.length := by omega
      have HX := Lib.hid HI.out.ex
      clear hlt
      go_wp2_with fail
      refine (fset_any f _ 0 (by decide) _ HI.out.hz).mono ?_; rintro e w6 ⟨rfl, hz, hg, -⟩
      have hA6 := HI.out.ha.chg hg (fun b hb hx => HI.out.ha.fuse b hx hb)
      have HA6 := Lib.hid (And.intro hA6 (And.intro HI.out.ga HI.out.ba))
      have HZ6 := Lib.hid hz
      have HX6 := Lib.hid (Chg.after2 HI.out.ex hg (fun b hb => by cases hb; exact HI.out.bf))
      have HBF := Lib.hid HI.out.bf
      clear hz hg hA6
      go_wp2_with fail
      refine (blown_any f _ _ HZ6.out).mono ?_; rintro e w' ⟨rfl, rfl⟩
      go_wp2_with fail
      refine (ops_any f _ _ HZ6.out).mono ?_; rintro e w' ⟨rfl, rfl⟩
      go_wp2_with fail
      obtain ⟨d', hw⟩ := fgood_y HA6.out.2.1
      refine (write_any sa (some f) _ dA SA [121] _ [] _ HA6.out.1 HZ6.out (by decide) (by decide) (Cells.nil _) (by decide) (by have := (fgood_tot HA6.out.2.1).1; omega) (by have := (fgood_tot HA6.out.2.1).2; omega)).mono ?_
      rw [hw]; rintro e w7 ⟨rfl, hz, hS, hg⟩
      have HZ7 := Lib.hid hz
      have HX7 := Lib.hid (Chg.after2 HX6.out hg (fun b hb => by
        rcases hb with hb | hb
        · exact HA6.out.2.2 b hb
        · cases hb; exact HBF.out))
      clear hz hS hg hw
      go_wp2_with fail
      refine (ops_any f _ _ HZ7.out).mono ?_; rintro e w' ⟨rfl, rfl⟩
      go_wp2_with fail
      go_ret
      exact ⟨rfl, HX7.out⟩
end Go.Proofs.Ytnphkddhckcpmaa
