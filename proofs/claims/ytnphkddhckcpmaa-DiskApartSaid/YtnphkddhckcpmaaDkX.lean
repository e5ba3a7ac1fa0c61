/-
  DiskApart: the walk.
-/
import Derived.Test.YtnphkddhckcpmaaDkW
namespace Go.Proofs.Ytnphkddhckcpmaa
open Go.RowKit Dk
set_option maxRecDepth 100000
set_option maxHeartbeats 4000000
attribute [local go_sem] min_int2 max_int2 bstr_toList

theorem apart_any (w : World) (v : Value) (l : List Deed) (hV : Deeds w v l) (hl : l.length ≤ maxLen) :
    Calls Try.prog 4 #[v] w fun e w' => e = .returned (.bool true) ∧ Ext w w' := by
  obtain ⟨a, c, rfl⟩ := hV.form
  have HV := Lib.hid hV
  have HL := Lib.hid hl
  clear hV hl
  go_enter Try.func4, Try.ntmps4
  go_wp2_with fail
  refine (dawake_any _).mono ?_; rintro e w1 ⟨rfl, x1⟩
  have HV1 := Lib.hid (HV.out.ext x1)
  have X1 := Lib.hid x1
  clear x1
  go_wp2_with fail
  by_cases hR : l.length ≤ 50 ∧ ∀ x ∈ l, x.small
  case neg =>
    have HR := Lib.hid hR
    clear hR
    refine (room_any _ l 50 false (by omega) ⟨(fun h => Bool.noConfusion h), fun h => absurd h HR.out⟩ HL.out _ HV1.out).mono ?_; rintro e w' ⟨rfl, rfl⟩
    go_wp2_with fail
    go_ret
    exact ⟨rfl, X1.out⟩
  have HR := Lib.hid hR
  have hl50 : l.length ≤ 50 := hR.1
  clear hR
  refine (room_any _ l 50 true (by omega) ⟨fun _ => HR.out, fun _ => rfl⟩ HL.out _ HV1.out).mono ?_; rintro e w' ⟨rfl, rfl⟩
  go_wp2_with fail
  refine (newfuse_any _).mono ?_; rintro e w2 ⟨rfl, hz, x2, hsz⟩
  obtain ⟨f, hf⟩ : ∃ f, w1.heap.size = f := ⟨_, rfl⟩
  rw [hf] at hz ⊢
  have Z2 := Lib.hid hz
  have N2 := Lib.hid (And.intro hf hsz)
  have X2 := Lib.hid (Ext.trans X1.out x2)
  clear hz x2 hsz hf
  go_wp2_with fail
  refine (newfuse_any _).mono ?_; rintro e w3 ⟨rfl, hz, x3, hsz⟩
  obtain ⟨g, hg⟩ : ∃ g, w2.heap.size = g := ⟨_, rfl⟩
  rw [hg] at hz ⊢
  have Z3 := Lib.hid (And.intro (Z2.out.chg (Chg.of_ext x3 (fun _ => False)) (fun _ _ h => h)) hz)
  have N3 := Lib.hid (And.intro hg hsz)
  have X3 := Lib.hid (Ext.trans X2.out x3)
  clear hz x3 hsz hg
  go_wp2_with fail
  refine (new_any 5000 (some f) _ (fun b hb => Z3.out.1.lt b hb)).mono ?_; rintro e w4 ⟨rfl, hS, x4⟩
  obtain ⟨sa, hsa⟩ : ∃ s, w3.heap.size + 1 = s := ⟨_, rfl⟩
  rw [hsa] at hS ⊢
  have A4 := Lib.hid (And.intro (show SimAt w4 sa (some f) ⟨5000, false, 0, []⟩ (Grow (fun _ => False) w3 w4) from hS) x4)
  have Z4 := Lib.hid (And.intro (Z3.out.1.chg (Chg.of_ext x4 (fun _ => False)) (fun _ _ h => h)) (Z3.out.2.chg (Chg.of_ext x4 (fun _ => False)) (fun _ _ h => h)))
  clear hS x4 hsa
  go_wp2_with fail
  refine (new_any 5000 (some f) _ (fun b hb => Z4.out.1.lt b hb)).mono ?_; rintro e w5 ⟨rfl, hS, x5⟩
  obtain ⟨sb, hsb⟩ : ∃ s, w4.heap.size + 1 = s := ⟨_, rfl⟩
  rw [hsb] at hS ⊢
  have B5 := Lib.hid (And.intro (show SimAt w5 sb (some f) ⟨5000, false, 0, []⟩ (Grow (fun _ => False) w4 w5) from hS) x5)
  have Z5 := Lib.hid (And.intro (Z4.out.1.chg (Chg.of_ext x5 (fun _ => False)) (fun _ _ h => h)) (Z4.out.2.chg (Chg.of_ext x5 (fun _ => False)) (fun _ _ h => h)))
  clear hS x5 hsb
  go_wp2_with fail
  refine (new_any 5000 (some g) _ (fun b hb => Z5.out.2.lt b hb)).mono ?_; rintro e w6 ⟨rfl, hS, x6⟩
  obtain ⟨sc, hsc⟩ : ∃ s, w5.heap.size + 1 = s := ⟨_, rfl⟩
  rw [hsc] at hS ⊢
  have hI : AInv w w6 f g sa sb sc 0 0 0 ⟨5000, false, 0, []⟩ ⟨5000, false, 0, []⟩ (Grow (fun _ => False) w3 w4) (Grow (fun _ => False) w4 w5) (Grow (fun _ => False) w5 w6) := by
    have q1 := X1.out.size
    have q2 := N2.out
    have q3 := N3.out
    have q4 := A4.out.2.size
    have q5 := B5.out.2.size
    have q6 := x6.size
    exact {
      hf := Z5.out.1.chg (Chg.of_ext x6 (fun _ => False)) (fun _ _ h => h)
      hg := Z5.out.2.chg (Chg.of_ext x6 (fun _ => False)) (fun _ _ h => h)
      ha := (A4.out.1.ext B5.out.2).ext x6
      hb := B5.out.1.ext x6
      hc := hS
      fa := FB.new 5000
      fb := FB.new 5000
      ab := by rintro b (h | h) (k | k) <;> first | exact h | exact k | omega
      ac := by rintro b (h | h) (k | k) <;> first | exact h | exact k | omega
      bc := by rintro b (h | h) (k | k) <;> first | exact h | exact k | omega
      ag := by intro b hb; cases hb; rintro (k | k) <;> first | exact k | omega
      bg := by intro b hb; cases hb; rintro (k | k) <;> first | exact k | omega
      cf := by intro b hb; cases hb; rintro (k | k) <;> first | exact k | omega
      fg := by omega
      wa := by rintro b (k | k) <;> first | exact k.elim | omega
      wb := by rintro b (k | k) <;> first | exact k.elim | omega
      wc := by rintro b (k | k) <;> first | exact k.elim | omega
      wf := by omega
      wg := by omega
      kk := Nat.le_refl _
      ki := Nat.le_refl _
      ex := Ext.trans (Ext.trans (Ext.trans X3.out A4.out.2) B5.out.2) x6 }
  have HI6 := Lib.hid hI
  clear hS x6 hsc hI A4 B5 Z2 Z3 Z4 Z5 N2 N3 X2 X3
  go_wp2_with fail
  go_loopw [8] (fun v8 wr => ∃ (i kf kg : Nat) (dA dB : DS) (SA SB SC : Nat → Prop), i ≤ l.length ∧ v8 = .int .i64 (i : Nat) ∧ Hid (AInv w wr f g sa sb sc kf kg i dA dB SA SB SC)) (fun v8 _ => (l.length - intOf v8).toNat)
  case atStart => exact ⟨0, 0, 0, _, _, _, _, _, by omega, rfl, HI6⟩
  case round =>
    obtain ⟨i, kf, kg, dA, dB, SA, SB, SC, hi, rfl, HI⟩ := hrel
    by_cases hlt : i < l.length
    · have hlt' : (i : Int) < (l.length : Int) := by omega
      have hx : l[i]? = some l[i] := List.getElem?_eq_getElem hlt
      have hsm := HR.out.2 _ (List.getElem_mem hlt)
      obtain ⟨x, hxx⟩ : ∃ x, l[i] = x := ⟨_, rfl⟩
      rw [hxx] at hx hsm
      obtain ⟨ok, b, o, rfl, da, dc, c0, c1, c2, c3, c4, c5⟩ := HV.out.at hx
      have HD := Lib.hid c5
      replace c0 := HI.out.ex.cell c0
      replace c1 := HI.out.ex.cell c1
      replace c2 := HI.out.ex.cell c2
      replace c3 := HI.out.ex.cell c3
      replace c4 := HI.out.ex.cell c4
      replace c5 := Cells.ext c5 HI.out.ex
      have HX := Lib.hid (And.intro ok (And.intro c5 hsm))
      clear ok c5 hsm hx hxx
      obtain ⟨xd, xn, xa, xb, xt⟩ := x
      simp only at c0 c1 c2 c3 c4 HX
      have x1 : Ext wr (wr.alloc (.cells #[.int .i64 xd, .int .i64 xn, .string (bstr xa), .string (bstr xb), .slice da xt.length dc] 32)) := (Ext.refl wr).alloc (Nat.le_refl _) _
      have I1 := Lib.hid (HI.out.ext x1)
      have HX := Lib.hid (And.intro HX.out.1 (And.intro (Cells.ext HX.out.2.1 x1) HX.out.2.2))
      have hnab : ¬ sb = sa := fun e => HI.out.ab sa HI.out.ha.self (e ▸ HI.out.hb.self)
      have hnab' : (sb == sa) = false := by simpa using hnab
      have KF : Hid (zops (z0 kf) < 1099511627776) := Lib.hid (by have := HI.out.ki; show kf < _; omega)
      have HRW := Lib.hid (Row.new wr 32 #[.int .i64 xd, .int .i64 xn, .string (bstr xa), .string (bstr xb), .slice da xt.length dc])
      have HLT : Hid (∀ b, (SA b ∨ some f = some b) → b < wr.heap.size) := Lib.hid (fun b hb => hb.elim (HI.out.ha.lt' b) fun hb => HI.out.hf.lt b hb)
      have KG : Hid (zops (z0 kg) < 1099511627776) := Lib.hid (by have := HI.out.ki; have := HI.out.kk; show kg < _; omega)
      clear x1 HI
      obtain ⟨r, hr⟩ : ∃ r, bits .and .i64 xn 1 = r := ⟨_, rfl⟩
      by_cases hr1 : r = 1
      · have q1 : (r == 1) = true := by simpa using hr1
        clear hr1
        by_cases hd1 : xd = 1
        · subst hd1
          go_wp2_with fail
          refine (write_any sb (some f) (z0 kf) dB SB xa _ xt _ I1.out.hb I1.out.hf KF.out (Nat.le_trans HX.out.2.2.1 (by decide)) HX.out.2.1 (Nat.le_trans HX.out.2.2.2.2 (by decide)) (by have := I1.out.fb.2.2; omega) (by have := I1.out.fb.2.1; omega)).mono ?_
          rw [show writes (z0 kf) dB xa xt = _ from writes_fuse dB kf xa xt]; rintro e w7 ⟨rfl, hz, hS, hg⟩
          have HN := Lib.hid (I1.out.stepB ⟨by omega, by have := I1.out.ki; omega⟩ hz hS hg (I1.out.fb.write xa HX.out.2.2.2.2))
          obtain ⟨nn, hnn⟩ : ∃ nn, (writes none dB xa xt).1 = nn := ⟨_, rfl⟩
          rw [hnn]
          have pe := eql_sims HN.out.hb HN.out.ha hnab
          clear hz hS hg
          go_wp2_with fail
          exact ⟨⟨i + 1, kf + 1, kg, dA, _, SA, _, SC, by omega, by go_num, HN⟩, by simp [intOf]; omega⟩
        by_cases hd2 : xd = 2
        · subst hd2
          go_wp2_with fail
          refine (write_any sb (some f) (z0 kf) dB SB xa _ xt _ I1.out.hb I1.out.hf KF.out (Nat.le_trans HX.out.2.2.1 (by decide)) HX.out.2.1 (Nat.le_trans HX.out.2.2.2.2 (by decide)) (by have := I1.out.fb.2.2; omega) (by have := I1.out.fb.2.1; omega)).mono ?_
          rw [show writes (z0 kf) dB xa xt = _ from writes_fuse dB kf xa xt]; rintro e w7 ⟨rfl, hz, hS, hg⟩
          have HN := Lib.hid (I1.out.stepB ⟨by omega, by have := I1.out.ki; omega⟩ hz hS hg (I1.out.fb.write xa HX.out.2.2.2.2))
          obtain ⟨nn, hnn⟩ : ∃ nn, (writes none dB xa xt).1 = nn := ⟨_, rfl⟩
          rw [hnn]
          have pe := eql_sims HN.out.hb HN.out.ha hnab
          clear hz hS hg
          go_wp2_with fail
          exact ⟨⟨i + 1, kf + 1, kg, dA, _, SA, _, SC, by omega, by go_num, HN⟩, by simp [intOf]; omega⟩
        by_cases hd5 : xd = 5
        · subst hd5
          go_wp2_with fail
          refine (delete_any sb (some f) (z0 kf) dB SB xa _ I1.out.hb I1.out.hf KF.out (Nat.le_trans HX.out.2.2.1 (by decide))).mono ?_
          rw [show deletes (z0 kf) dB xa = _ from deletes_fuse dB kf xa]; rintro e w7 ⟨rfl, hz, hS, hg⟩
          have HN := Lib.hid (I1.out.stepB ⟨by omega, by have := I1.out.ki; omega⟩ hz hS hg (I1.out.fb.delete xa))
          obtain ⟨nn, hnn⟩ : ∃ nn, (deletes none dB xa).1 = nn := ⟨_, rfl⟩
          rw [hnn]
          have pe := eql_sims HN.out.hb HN.out.ha hnab
          clear hz hS hg
          go_wp2_with fail
          exact ⟨⟨i + 1, kf + 1, kg, dA, _, SA, _, SC, by omega, by go_num, HN⟩, by simp [intOf]; omega⟩
        by_cases hd9 : xd = 9
        · subst hd9
          go_wp2_with fail
          refine (wipe_any sb (some f) dB SB _ I1.out.hb).mono ?_; rintro e w7 ⟨rfl, hS, hg⟩
          have HN := Lib.hid (I1.out.wipeB hS hg)
          have pe := eql_sims HN.out.hb HN.out.ha hnab
          clear hS hg
          go_wp2_with fail
          exact ⟨⟨i + 1, kf, kg, dA, _, SA, _, SC, by omega, by go_num, HN⟩, by simp [intOf]; omega⟩
        have d1 : (xd == 1) = false := by simpa using hd1
        have d2 : (xd == 2) = false := by simpa using hd2
        have d5 : (xd == 5) = false := by simpa using hd5
        have d9 : (xd == 9) = false := by simpa using hd9
        go_wp2_with fail
        exact ⟨⟨i + 1, kf, kg, dA, dB, SA, SB, SC, by omega, by go_num, Lib.hid I1.out.idle⟩, by simp [intOf]; omega⟩
      · have q1 : (r == 1) = false := by simpa using hr1
        clear hr1
        by_cases hd1 : xd = 1
        · subst hd1
          go_wp2_with fail
          refine (write_any sa (some f) (z0 kf) dA SA xa _ xt _ I1.out.ha I1.out.hf KF.out (Nat.le_trans HX.out.2.2.1 (by decide)) HX.out.2.1 (Nat.le_trans HX.out.2.2.2.2 (by decide)) (by have := I1.out.fa.2.2; omega) (by have := I1.out.fa.2.1; omega)).mono ?_
          rw [show writes (z0 kf) dA xa xt = _ from writes_fuse dA kf xa xt]; rintro e w7 ⟨rfl, hz, hS, hg⟩
          have hx7 : Ext w w7 := Chg.after2 I1.out.ex hg (fun b hx => hx.elim (I1.out.wa b) fun hx => by cases hx; exact I1.out.wf)
          have hr7 := HRW.out.chg hg (fun hx => Nat.lt_irrefl _ (HLT.out _ hx))
          have e2 := hr7.cell (i := 2) (v := .string (bstr xa)) rfl
          have e4 := hr7.cell (i := 4) (v := .slice da xt.length dc) rfl
          have HC := Lib.hid (I1.out.midC hg)
          have HA := Lib.hid (And.intro hz (And.intro hS hg))
          have HB7 := Lib.hid (Cells.ext HD.out hx7)
          obtain ⟨nn, hnn⟩ : ∃ nn, (writes none dA xa xt).1 = nn := ⟨_, rfl⟩
          rw [hnn]
          have HNN := Lib.hid hnn
          have pe := eql_sim w7 sa
          clear hz hS hg hx7 hr7 hnn
          go_wp2_with fail
          refine (write_any sc (some g) (z0 kg) dA SC xa _ xt _ HC.out.1 HC.out.2 KG.out (Nat.le_trans HX.out.2.2.1 (by decide)) HB7.out (Nat.le_trans HX.out.2.2.2.2 (by decide)) (by have := I1.out.fa.2.2; omega) (by have := I1.out.fa.2.1; omega)).mono ?_
          rw [show writes (z0 kg) dA xa xt = _ from writes_fuse dA kg xa xt]; rintro e w8 ⟨rfl, hz, hS, hg⟩
          have HN := Lib.hid (I1.out.stepA ⟨by have := I1.out.kk; omega, by have := I1.out.ki; omega⟩ HA.out.1 HA.out.2.1 HA.out.2.2 (I1.out.fa.write xa HX.out.2.2.2.2) hz hS hg)
          rw [HNN.out]
          clear hz hS hg
          go_wp2_with fail
          exact ⟨⟨i + 1, kf + 1, kg + 1, _, dB, _, SB, _, by omega, by go_num, HN⟩, by simp [intOf]; omega⟩
        by_cases hd2 : xd = 2
        · subst hd2
          go_wp2_with fail
          refine (write_any sa (some f) (z0 kf) dA SA xa _ xt _ I1.out.ha I1.out.hf KF.out (Nat.le_trans HX.out.2.2.1 (by decide)) HX.out.2.1 (Nat.le_trans HX.out.2.2.2.2 (by decide)) (by have := I1.out.fa.2.2; omega) (by have := I1.out.fa.2.1; omega)).mono ?_
          rw [show writes (z0 kf) dA xa xt = _ from writes_fuse dA kf xa xt]; rintro e w7 ⟨rfl, hz, hS, hg⟩
          have hx7 : Ext w w7 := Chg.after2 I1.out.ex hg (fun b hx => hx.elim (I1.out.wa b) fun hx => by cases hx; exact I1.out.wf)
          have hr7 := HRW.out.chg hg (fun hx => Nat.lt_irrefl _ (HLT.out _ hx))
          have e2 := hr7.cell (i := 2) (v := .string (bstr xa)) rfl
          have e4 := hr7.cell (i := 4) (v := .slice da xt.length dc) rfl
          have HC := Lib.hid (I1.out.midC hg)
          have HA := Lib.hid (And.intro hz (And.intro hS hg))
          have HB7 := Lib.hid (Cells.ext HD.out hx7)
          obtain ⟨nn, hnn⟩ : ∃ nn, (writes none dA xa xt).1 = nn := ⟨_, rfl⟩
          rw [hnn]
          have HNN := Lib.hid hnn
          have pe := eql_sim w7 sa
          clear hz hS hg hx7 hr7 hnn
          go_wp2_with fail
          refine (write_any sc (some g) (z0 kg) dA SC xa _ xt _ HC.out.1 HC.out.2 KG.out (Nat.le_trans HX.out.2.2.1 (by decide)) HB7.out (Nat.le_trans HX.out.2.2.2.2 (by decide)) (by have := I1.out.fa.2.2; omega) (by have := I1.out.fa.2.1; omega)).mono ?_
          rw [show writes (z0 kg) dA xa xt = _ from writes_fuse dA kg xa xt]; rintro e w8 ⟨rfl, hz, hS, hg⟩
          have HN := Lib.hid (I1.out.stepA ⟨by have := I1.out.kk; omega, by have := I1.out.ki; omega⟩ HA.out.1 HA.out.2.1 HA.out.2.2 (I1.out.fa.write xa HX.out.2.2.2.2) hz hS hg)
          rw [HNN.out]
          clear hz hS hg
          go_wp2_with fail
          exact ⟨⟨i + 1, kf + 1, kg + 1, _, dB, _, SB, _, by omega, by go_num, HN⟩, by simp [intOf]; omega⟩
        by_cases hd5 : xd = 5
        · subst hd5
          go_wp2_with fail
          refine (delete_any sa (some f) (z0 kf) dA SA xa _ I1.out.ha I1.out.hf KF.out (Nat.le_trans HX.out.2.2.1 (by decide))).mono ?_
          rw [show deletes (z0 kf) dA xa = _ from deletes_fuse dA kf xa]; rintro e w7 ⟨rfl, hz, hS, hg⟩
          have hx7 : Ext w w7 := Chg.after2 I1.out.ex hg (fun b hx => hx.elim (I1.out.wa b) fun hx => by cases hx; exact I1.out.wf)
          have hr7 := HRW.out.chg hg (fun hx => Nat.lt_irrefl _ (HLT.out _ hx))
          have e2 := hr7.cell (i := 2) (v := .string (bstr xa)) rfl
          have e4 := hr7.cell (i := 4) (v := .slice da xt.length dc) rfl
          have HC := Lib.hid (I1.out.midC hg)
          have HA := Lib.hid (And.intro hz (And.intro hS hg))
          have HB7 := Lib.hid (Cells.ext HD.out hx7)
          obtain ⟨nn, hnn⟩ : ∃ nn, (deletes none dA xa).1 = nn := ⟨_, rfl⟩
          rw [hnn]
          have HNN := Lib.hid hnn
          have pe := eql_sim w7 sa
          clear hz hS hg hx7 hr7 hnn
          go_wp2_with fail
          refine (delete_any sc (some g) (z0 kg) dA SC xa _ HC.out.1 HC.out.2 KG.out (Nat.le_trans HX.out.2.2.1 (by decide))).mono ?_
          rw [show deletes (z0 kg) dA xa = _ from deletes_fuse dA kg xa]; rintro e w8 ⟨rfl, hz, hS, hg⟩
          have HN := Lib.hid (I1.out.stepA ⟨by have := I1.out.kk; omega, by have := I1.out.ki; omega⟩ HA.out.1 HA.out.2.1 HA.out.2.2 (I1.out.fa.delete xa) hz hS hg)
          rw [HNN.out]
          clear hz hS hg
          go_wp2_with fail
          exact ⟨⟨i + 1, kf + 1, kg + 1, _, dB, _, SB, _, by omega, by go_num, HN⟩, by simp [intOf]; omega⟩
        by_cases hd9 : xd = 9
        · subst hd9
          go_wp2_with fail
          refine (wipe_any sa (some f) dA SA _ I1.out.ha).mono ?_; rintro e w7 ⟨rfl, hS, hg⟩
          have HA := Lib.hid (And.intro hS hg)
          have pe := eql_sim w7 sa
          have HC := Lib.hid (I1.out.midC (hg.mono fun b _ hb => .inl hb))
          clear hS hg
          go_wp2_with fail
          refine (wipe_any sc (some g) dA SC _ HC.out.1).mono ?_; rintro e w8 ⟨rfl, hS, hg⟩
          have HN := Lib.hid (I1.out.wipeA HA.out.1 HA.out.2 hS hg)
          clear hS hg
          go_wp2_with fail
          exact ⟨⟨i + 1, kf, kg, _, dB, _, SB, _, by omega, by go_num, HN⟩, by simp [intOf]; omega⟩
        have d1 : (xd == 1) = false := by simpa using hd1
        have d2 : (xd == 2) = false := by simpa using hd2
        have d5 : (xd == 5) = false := by simpa using hd5
        have d9 : (xd == 9) = false := by simpa using hd9
        go_wp2_with fail
        exact ⟨⟨i + 1, kf, kg, dA, dB, SA, SB, SC, by omega, by go_num, Lib.hid I1.out.idle⟩, by simp [intOf]; omega⟩
    · obtain rfl : i = l.length := by omega
      clear hlt
      have hle := HI.out.fa.2.1
      have hto := HI.out.fa.2.2
      have HLE := Lib.hid (And.intro (show dA.fs.length ≤ 50 by omega) (show tot dA.fs ≤ 250000 by omega))
      clear hle hto
      go_wp2_with fail
      obtain ⟨ma, ea, hraw, -⟩ := id HI.out.ha
      refine (files_any sort_ok sa ma (some f) ea dA _ hraw (by have := HLE.out.1; omega)).mono ?_; rintro e w7 ⟨v, rfl, ho, x7⟩
      have F7 := Lib.hid (And.intro (HI.out.ext x7) (show Strs w7 v (paths dA.fs) from ho.mono (Nat.zero_le _)))
      clear hraw ho x7
      go_wp2_with fail
      obtain ⟨mc, ec, hraw, -⟩ := id F7.out.1.hc
      refine (files_any sort_ok sc mc (some g) ec dA _ hraw (by have := HLE.out.1; omega)).mono ?_; rintro e w8 ⟨u, rfl, ho, x8⟩
      have F8 := Lib.hid (And.intro (F7.out.1.ext x8) (And.intro (show Strs w8 v (paths dA.fs) from Own.ext F7.out.2 x8) (show Strs w8 u (paths dA.fs) from ho.mono (Nat.zero_le _))))
      clear hraw ho x8
      go_wp2_with fail
      refine (texts_same v u (paths dA.fs) _ F8.out.2.1 F8.out.2.2 (by have := HLE.out.1; simp only [paths, List.length_map]; unfold maxLen; omega)).mono ?_; rintro e w9 ⟨rfl, x9⟩
      have F9 := Lib.hid (F8.out.1.ext x9)
      clear x9
      go_wp2_with fail
      obtain ⟨ma2, ea2, hraw, -⟩ := id F9.out.ha
      refine (used_any sa ma2 (some f) ea2 dA _ hraw (by have := HLE.out.2; omega)).mono ?_; rintro e wa ⟨rfl, xa⟩
      have Fa := Lib.hid (F9.out.ext xa)
      clear hraw xa
      go_wp2_with fail
      obtain ⟨mc2, ec2, hraw, -⟩ := id Fa.out.hc
      refine (used_any sc mc2 (some g) ec2 dA _ hraw (by have := HLE.out.2; omega)).mono ?_; rintro e wb ⟨rfl, xb⟩
      have Fb := Lib.hid (Fa.out.ext xb)
      clear hraw xb
      go_wp2_with fail
      refine (ops_any f _ _ Fb.out.hf).mono ?_; rintro e w' ⟨rfl, rfl⟩
      go_wp2_with fail
      refine (ops_any g _ _ Fb.out.hg).mono ?_; rintro e w' ⟨rfl, rfl⟩
      have hkk : ¬ (kf : Int) < (kg : Int) := by have := Fb.out.kk; omega
      have hkk2 : (kg : Int) ≤ (kf : Int) := by have := Fb.out.kk; omega
      have hkk3 : kg ≤ kf := Fb.out.kk
      go_wp2_with fail
      go_ret
      exact ⟨rfl, Fb.out.ex⟩
end Go.Proofs.Ytnphkddhckcpmaa
