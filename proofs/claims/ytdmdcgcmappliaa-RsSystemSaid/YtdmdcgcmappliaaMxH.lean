/-
  matrix.Mul.
-/
import Derived.Test.YtdmdcgcmappliaaMxF
namespace Go.Proofs.Ytdmdcgcmappliaa
open Go.RowKit Gf
set_option maxRecDepth 100000
set_option maxHeartbeats 4000000
attribute [local go_sem] min_int2 max_int2

theorem MR.mono {w : World} {B B' g : Nat} {ls : List (List UInt8)} (h : MR w B g ls) (hB : B' ≤ B) : MR w B' g ls := by
  obtain ⟨vs, h1, h2, h3⟩ := h
  exact ⟨vs, h1, Nat.le_trans hB h2, h3⟩
theorem BRows.form {w : World} {v : Value} {ls : List (List UInt8)} (hV : BRows w v ls) : ∃ a cap, v = .slice a ls.length cap := by
  obtain ⟨a, n, cap, rfl⟩ : ∃ a n cap, v = .slice a n cap := by obtain ⟨vs, ⟨a, cap, e, _⟩, _⟩ := hV; exact ⟨_, _, _, e⟩
  obtain rfl := hV.len
  exact ⟨_, _, rfl⟩

theorem Cells.cellAt {w : World} {b o n cap : Nat} {cs : List Value} (h : Cells w (.slice (some ⟨b, o, none⟩) n cap) cs) {j : Nat} {u : Value} (hu : cs[j]? = some u) : w.cell? ⟨b, o + j, none⟩ = some u := by
  obtain ⟨b', o', e, hc⟩ := h.at hu
  simp only [Option.some.injEq, Addr.mk.injEq, and_true] at e
  obtain ⟨rfl, rfl⟩ := e
  exact hc
theorem BRows.rowAt {w : World} {b o n cap : Nat} {ls : List (List UInt8)} (h : BRows w (.slice (some ⟨b, o, none⟩) n cap) ls) {i : Nat} {l : List UInt8} (hl : ls[i]? = some l) :
    ∃ ra rc, w.cell? ⟨b, o + i, none⟩ = some (.slice ra l.length rc) ∧ Bytes w (.slice ra l.length rc) l := by
  obtain ⟨b', o', ra, rc, e, h1, h2⟩ := h.at hl
  simp only [Option.some.injEq, Addr.mk.injEq, and_true] at e
  obtain ⟨rfl, rfl⟩ := e
  exact ⟨ra, rc, h1, h2⟩
/-- A row of bytes that is not empty. -/
theorem Bytes.open1 {w : World} {a : Option Addr} {n cap : Nat} {l : List UInt8} (h : Bytes w (.slice a n cap) l) (h0 : 0 < l.length) : ∃ b o, a = some ⟨b, o, none⟩ := by
  obtain ⟨b, o, e, -⟩ := h.at (bvs_get h0)
  exact ⟨b, o, e⟩
theorem Mat.Sh.get {a : Mat.M} {n m : Nat} (h : Mat.Sh a n m) {i : Nat} (hi : i < n) : a[i]? = some (a.getD i []) ∧ (a.getD i []).length = m := by
  have hi' : i < a.length := by rw [h.1]; exact hi
  exact ⟨by rw [List.getElem?_eq_getElem hi', Mat.getD_lt hi'], h.row hi⟩
theorem bytes_get {l : List UInt8} {j : Nat} (h : j < l.length) : (bvs l)[j]? = some (bv (l.getD j 0)) := by
  rw [bvs_get h, Mat.getD_lt h]
theorem mul_any (va vb : Value) (a b : Mat.M) (n k m : Nat) (h1 : 1 ≤ n ∧ n ≤ 255) (h2 : 1 ≤ k ∧ k ≤ 255) (h3 : 1 ≤ m ∧ m ≤ 255) (ha : Mat.Sh a n k) (hb : Mat.Sh b k m) (w : World) (hA : BRows w va a) (hB : BRows w vb b) :
    Calls Try.prog 21 #[va, vb] w fun e w' => ∃ g, e = .returned (.tuple #[.slice (some ⟨g, 0, none⟩) n n, .bool true]) ∧ MR w' w.heap.size g (Mat.mmul a b m) ∧ Ext w w' := by
  obtain ⟨aa, ac, rfl⟩ := hA.form
  obtain ⟨ba, bc, rfl⟩ := hB.form
  obtain ⟨b0, b1⟩ := h1
  obtain ⟨b2, b3⟩ := h2
  obtain ⟨b4, b5⟩ := h3
  obtain ⟨ab, ao, qa, qc, rfl, c1, -⟩ := hA.at (List.getElem?_eq_getElem (show 0 < a.length by have := ha.1; omega))
  obtain ⟨bb, bo, qb, qd, rfl, d1, -⟩ := hB.at (List.getElem?_eq_getElem (show 0 < b.length by have := hb.1; omega))
  rw [Nat.add_zero, ha.2 _ (List.getElem_mem _)] at c1
  rw [Nat.add_zero, hb.2 _ (List.getElem_mem _)] at d1
  have HSA := Lib.hid ha
  have HSB := Lib.hid hb
  rw [ha.1] at hA
  rw [hb.1] at hB
  rw [ha.1, hb.1]
  have HA := Lib.hid hA
  have HB := Lib.hid hB
  have C1 := Lib.hid c1
  have D1 := Lib.hid d1
  clear hA hB c1 d1 ha hb
  go_enter Try.func21, Try.ntmps21
  go_wp2_with fail
  refine (good_yes _ a n k b0 b1 b2 b3 HSA.out _ HA.out).mono ?_; rintro e w1 ⟨rfl, x1⟩
  have X1 := Lib.hid x1
  clear x1
  go_wp2_with fail
  refine (good_yes _ b k m b2 b3 b4 b5 HSB.out _ (HB.out.ext X1.out)).mono ?_; rintro e w2 ⟨rfl, x2⟩
  have c1 := Ext.cell (Ext.trans X1.out x2) C1.out
  have d1 := Ext.cell (Ext.trans X1.out x2) D1.out
  have X2 := Lib.hid (Ext.trans X1.out x2)
  clear x2
  have hkk : ((k : Int) != (k : Int)) = false := by simp
  go_wp2_with fail
  refine (new_any _).mono ?_; rintro e w3 ⟨t, ht, rfl, hT, x3⟩
  have d1 := Ext.cell (Ext.trans X2.out x3) D1.out
  have X3 := Lib.hid (Ext.trans X2.out x3)
  clear x3 ht c1
  go_wp2_with fail
  refine (blank_any n m (by omega) (by omega) _).mono ?_; rintro e w4 ⟨g, vs, rfl, hO, x4⟩
  have HT := Lib.hid hT
  have X4 := Lib.hid x4
  have HO := Lib.hid hO.mr
  clear hT x4 hO hkk d1
  go_wp2_with fail
  go_loopw [39] (fun v39 wr => ∃ (i : Nat) (ls : List (List UInt8)), i ≤ n ∧ v39 = .int .i64 (i : Nat) ∧ ls.length = n ∧ Hid (MR wr w3.heap.size g ls) ∧ Hid (∀ j, j < n → ls[j]? = some (if j < i then Mat.rowk (a.getD j []) b m k else List.replicate m 0)) ∧ Below w3.heap.size w3 wr) (fun v39 _ => (n - intOf v39).toNat)
  case atStart => exact ⟨0, _, by omega, rfl, by simp, HO, Lib.hid fun j h => by rw [List.getElem?_replicate, if_pos h, if_neg (by omega)], X4.out⟩
  case round =>
    obtain ⟨i, ls, hi, rfl, hll, hR, hJ, hBr⟩ := hrel
    by_cases hlt : i < n
    · have hil : i < ls.length := by omega
      have HL0 := Lib.hid (show ls[i]? = some (List.replicate m 0) by rw [hJ.out i hlt, if_neg (by omega)])
      obtain ⟨g1, g2⟩ := HSA.out.get hlt
      obtain ⟨ra, rc, c0, hb⟩ := HA.out.rowAt g1
      rw [g2] at c0 hb
      have c1 := Ext.cell (Ext.trans X3.out hBr) c0
      obtain ⟨rb, ro, rfl⟩ := hb.open1 (by omega)
      have HRB := Lib.hid hb
      have G2 := Lib.hid g2
      have hlt' : (i : Int) < (n : Int) := by omega
      generalize hrow : a.getD i [] = row at HRB G2
      have HROW := Lib.hid hrow
      clear g1 g2 hb hrow c0
      go_wp2_with fail
      clear c1
      go_loopw [46] (fun v46 wr2 => ∃ j : Nat, j ≤ k ∧ v46 = .int .i64 (j : Nat) ∧ Hid (MR wr2 w3.heap.size g (ls.set i (Mat.rowk row b m j))) ∧ Below w3.heap.size w3 wr2) (fun v46 _ => (k - intOf v46).toNat)
      case atStart => exact ⟨0, by omega, rfl, Lib.hid (by have e : ls.set i (List.replicate m 0) = ls := by { have := Mat.set_self ls i; rw [List.getD_eq_getElem?_getD, HL0.out] at this; exact this }; show MR _ _ _ (ls.set i (List.replicate m 0)); rw [e]; exact hR.out), hBr⟩
      case round =>
        obtain ⟨j, hj, rfl, hR2, hBr2⟩ := hrel
        rename World => wr2
        by_cases hlt2 : j < k
        · have hlt2' : (j : Int) < (k : Int) := by omega
          have hE2 := Ext.trans X3.out hBr2
          have c1 := ((HRB.out.ext hE2).cellAt (bytes_get (show j < row.length by rw [G2.out]; exact hlt2)))
          obtain ⟨g3, g4⟩ := HSB.out.get hlt2
          obtain ⟨ba, bcc, d1, hbr⟩ := (HB.out.ext hE2).rowAt g3
          rw [g4] at d1 hbr
          obtain ⟨oa, oc, o1, hor⟩ := hR2.out.at (i := i) (l := Mat.rowk row b m j) (by rw [List.getElem?_set, if_pos rfl, if_pos hil])
          rw [Mat.rowk_len] at o1 hor
          have HBR := Lib.hid hbr
          have HOR := Lib.hid hor
          have HT2 := Lib.hid (HT.out.ext hBr2)
          have G4 := Lib.hid g4
          have HE2 := Lib.hid hE2
          have mc : ∀ w', Ext wr2 w' → Calls Try.prog 49 #[.pointer (some ⟨t, 0, none⟩), .slice oa m oc, .slice ba m bcc, .int .u8 (row.getD j 0).toNat] w' fun e w5 =>
              ∃ ua uc, e = .returned (.slice ua m uc) ∧ w5.cell? ⟨g, i, none⟩ = some (.slice oa m oc) ∧ w5.frozen? ⟨g, i, none⟩ = false ∧ Hid (MR (w5.setCell ⟨g, i, none⟩ (.slice ua m uc)) w3.heap.size g (ls.set i (Mat.rowk row b m (j + 1))) ∧ Below w3.heap.size w3 (w5.setCell ⟨g, i, none⟩ (.slice ua m uc))) := by
            intro w' e
            refine (muladd_any t (Mat.rowk row b m j) (b.getD j []) (row.getD j 0) _ _ _ (HT2.out.ext e) (by rw [Mat.rowk_len]; omega) (by rw [G4.out]; omega) (HOR.out.ext e) (HBR.out.ext e)).mono ?_
            rintro e' w5 ⟨u, rfl, hU, hx5⟩
            have hx6 := Ext.trans e hx5
            have hul : (mad (Mat.rowk row b m j) (b.getD j []) (row.getD j 0)).length = m := by rw [mad_length, Mat.rowk_len]
            obtain ⟨ua, uc, rfl⟩ := Bytes.slice hU.cells
            have hst := (hR2.out.ext hx6).set hU.cells i
            rw [List.set_set, hul] at hst
            rw [hul]
            exact ⟨ua, uc, rfl, Ext.cell hx6 o1, (hR2.out.ext hx6).unfrozen i, Lib.hid ⟨hst, Below.set (Ext.trans hBr2 hx6) hR2.out.base i _⟩⟩
          clear hbr hor hE2 g3 g4
          go_wp2_with fail
          go_region_with (go_at_call 49; refine (mc _ (Ext.of_drawn _ 1)).mono ?_; rintro e w5 ⟨ua, uc, rfl, o2, u2, hst⟩)
          all_goals
            clear o1 c1 d1 mc o2 u2
            go_wp2_with fail
            exact ⟨⟨j + 1, by omega, by go_num, Lib.hid hst.out.1, hst.out.2⟩, by simp [intOf]; omega⟩
        · obtain rfl : j = k := by omega
          clear hlt2
          go_wp2_with fail
          refine ⟨⟨i + 1, _, by omega, by go_num, by simpa using hll, hR2, Lib.hid fun q hq => ?_, hBr2⟩, by simp [intOf]; omega⟩
          rw [List.getElem?_set]
          by_cases e : i = q
          · rw [if_pos e, if_pos hil, if_pos (by omega), ← HROW.out, e]
          · rw [if_neg e, hJ.out q hq]
            by_cases e2 : q < i
            · rw [if_pos e2, if_pos (by omega)]
            · rw [if_neg e2, if_neg (by omega)]
    · obtain rfl : i = n := by omega
      have hle : ls = Mat.mmul a b m := by
        apply List.ext_getElem?
        intro j
        unfold Mat.mmul
        rw [List.getElem?_map, HSB.out.1]
        by_cases hj : j < i
        · rw [hJ.out j hj, if_pos hj, (HSA.out.get hj).1]; rfl
        · rw [List.getElem?_eq_none (by omega), List.getElem?_eq_none (by rw [HSA.out.1]; omega)]; rfl
      have hR2 := hR.out.mono X3.out.size
      rw [hle] at hR2
      have hR3 := Lib.hid hR2
      have HF := Lib.hid (Ext.trans X3.out hBr)
      clear hR2 hle hJ hR hlt
      go_wp2_with fail
      go_ret2
      exact ⟨_, rfl, hR3.out, HF.out⟩

theorem mul_no (va vb : Value) (a b : Mat.M) (h : ¬ (Mat.Good a ∧ Mat.Good b ∧ (a.getD 0 []).length = b.length)) (w : World) (hA : BRows w va a) (hB : BRows w vb b) :
    Calls Try.prog 21 #[va, vb] w fun e w' => e = .returned (.tuple #[.slice none 0 0, .bool false]) ∧ Ext w w' := by
  obtain ⟨aa, ac, rfl⟩ := hA.form
  obtain ⟨ba, bc, rfl⟩ := hB.form
  have HA := Lib.hid hA
  have HB := Lib.hid hB
  have HN := Lib.hid h
  clear hA hB h
  by_cases g1 : Mat.Good a
  · by_cases g2 : Mat.Good b
    · obtain ⟨a1, a2, a3, a4, a5⟩ := g1.sides
      obtain ⟨b1, b2, b3, b4, b5⟩ := g2.sides
      have hne : (a.getD 0 []).length ≠ b.length := fun e => HN.out ⟨g1, g2, e⟩
      have hkk : (((a.getD 0 []).length : Int) != (b.length : Int)) = true := (bne_len _ _).trans (decide_eq_true hne)
      have h0 : 0 < a.length := by omega
      obtain ⟨ab, ao, qa, qc, rfl, c1, -⟩ := HA.out.at (List.getElem?_eq_getElem h0)
      rw [Nat.add_zero, ← Mat.getD_lt h0 []] at c1
      obtain ⟨q, hq⟩ : ∃ q, (a.getD 0 []).length = q := ⟨_, rfl⟩
      rw [hq] at c1 hkk a3 a4
      have C1 := Lib.hid c1
      clear hq hne
      have G1 := Lib.hid g1
      have G2 := Lib.hid g2
      clear c1 g1 g2 a5 b5
      go_enter Try.func21, Try.ntmps21
      go_wp2_with fail
      refine (good_any _ a true ⟨fun _ => G1.out, fun _ => rfl⟩ _ HA.out).mono ?_; rintro e w1 ⟨rfl, x1⟩
      have X1 := Lib.hid x1
      clear x1
      go_wp2_with fail
      refine (good_any _ b true ⟨fun _ => G2.out, fun _ => rfl⟩ _ (HB.out.ext X1.out)).mono ?_; rintro e w2 ⟨rfl, x2⟩
      have c1 := Ext.cell (Ext.trans X1.out x2) C1.out
      have X2 := Lib.hid (Ext.trans X1.out x2)
      clear x2
      go_wp2_with fail
      go_ret2
      exact ⟨rfl, X2.out⟩
    · have G1 := Lib.hid g1
      have G2 := Lib.hid g2
      clear g1 g2
      go_enter Try.func21, Try.ntmps21
      go_wp2_with fail
      refine (good_any _ a true ⟨fun _ => G1.out, fun _ => rfl⟩ _ HA.out).mono ?_; rintro e w1 ⟨rfl, x1⟩
      have X1 := Lib.hid x1
      clear x1
      go_wp2_with fail
      refine (good_no _ b G2.out _ (HB.out.ext X1.out)).mono ?_; rintro e w2 ⟨rfl, x2⟩
      have X2 := Lib.hid (Ext.trans X1.out x2)
      clear x2
      go_wp2_with fail
      go_ret2
      exact ⟨rfl, X2.out⟩
  · have G1 := Lib.hid g1
    clear g1
    go_enter Try.func21, Try.ntmps21
    go_wp2_with fail
    refine (good_no _ a G1.out _ HA.out).mono ?_; rintro e w1 ⟨rfl, x1⟩
    have X1 := Lib.hid x1
    clear x1
    go_wp2_with fail
    go_ret2
    exact ⟨rfl, X1.out⟩
end Go.Proofs.Ytdmdcgcmappliaa
