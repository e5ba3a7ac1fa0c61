/-
  rs: Encode.
-/
import Derived.Test.YtdmdcgcmappliaaRsA
import Derived.Test.YtdmdcgcmappliaaRowApp
namespace Go.Proofs.Ytdmdcgcmappliaa
open Go.RowKit Gf
set_option maxRecDepth 100000
set_option maxHeartbeats 4000000
attribute [local go_sem] min_int2 max_int2

/-- A code's matrix: k data rows, n in all. -/
structure CodeMat (X : Mat.M) (k n : Nat) : Prop where
  k1 : 1 ≤ k
  kn : k < n
  n255 : n ≤ 255
  sh : Mat.Sh X n k
  top : X.take k = Mat.unit k
theorem CodeMat.of_sys {k m : Nat} {X : Mat.M} (h1 : 1 ≤ k) (h2 : 1 ≤ m) (h3 : k + m ≤ 255) (h : Mat.sys k m = some X) : CodeMat X k (k + m) := ⟨h1, by omega, h3, Mat.sys_sh h, Mat.sys_top h⟩
theorem CodeMat.enc_take {X D : Mat.M} {k n m : Nat} (h : CodeMat X k n) (hD : Mat.Sh D k m) : (Mat.mmul X D m).take k = D := by
  rw [Mat.mmul_take, h.top, Mat.unit_mmul hD]
theorem CodeMat.enc_le {X D : Mat.M} {k n m i : Nat} (h : CodeMat X k n) (hD : Mat.Sh D k m) (hi : i ≤ k) : (Mat.mmul X D m).take i = D.take i := by
  have := h.enc_take hD
  calc (Mat.mmul X D m).take i = ((Mat.mmul X D m).take k).take i := by rw [List.take_take, Nat.min_eq_left hi]
    _ = D.take i := by rw [this]

theorem enc_any (cb k nn : Nat) (X : Mat.M) (vd : Value) (D : Mat.M) (n : Nat) (hn : n ≤ 70000) (hX : CodeMat X k nn) (hD : Mat.Sh D k n) (w : World) (h : CodeAt w cb k nn X) (hV : BRows w vd D) :
    Calls Try.prog 35 #[.pointer (some ⟨cb, 0, none⟩), vd] w fun e w' => ∃ u, e = .returned (.tuple #[u, .int .i64 0]) ∧ RowsOwn w' w.heap.size u (Mat.mmul X D n) ∧ Ext w w' := by
  obtain ⟨va, vc, rfl⟩ := hV.form
  have k1 := hX.k1
  have kn := hX.kn
  have n2 := hX.n255
  have HX := Lib.hid hX
  have HD := Lib.hid hD
  rw [hD.1] at hV ⊢
  have HC := Lib.hid h
  have HV := Lib.hid hV
  have hk0 : ((k : Int) == 0) = false := beq_eq_false_iff_ne.2 (by omega)
  obtain ⟨xg, t, c0, c1, c2, -, hXr, -⟩ := h.cells
  have HXR := Lib.hid hXr
  have CC := Lib.hid (And.intro c0 (And.intro c1 c2))
  clear h hV hX hD hXr
  have hmk := make_cap (P := Try.prog) 22 34 (.slice none 0 0) 24 0 nn Try.underlying22 info_bytes rfl (Nat.zero_le _) (by omega) (by omega)
  have hmk' : ∀ w, (Instr.makeSlice 22 (.int .i64 0) (.int .i64 (nn : Int))).run Try.prog w = .ok (.slice (some ⟨w.heap.size, 0, none⟩) 0 nn) (w.alloc (.cells (Array.replicate nn (.slice none 0 0)) 34)) := hmk
  clear hmk
  have HK : Hid (∀ w', w = w' → Calls Try.prog 58 #[.pointer (some ⟨cb, 0, none⟩)] w' fun e w'' => e = .returned (.int .i64 k) ∧ w' = w'') := Lib.hid fun w' e => by subst e; exact rsK_any cb k nn X _ HC.out
  go_enter Try.func35, Try.ntmps35
  go_wp2_with fail
  refine (HK.out _ rfl).mono ?_; rintro e w' ⟨rfl, rfl⟩
  go_wp2_with fail
  have HEV : Hid (∀ r ∈ D, r.length = (D.getD 0 []).length) := Lib.hid fun r hr => by rw [HD.out.2 r hr, HD.out.row k1]
  refine (even_any _ D true ⟨fun _ => HEV.out, fun _ => rfl⟩ (by rw [HD.out.1]; unfold maxLen; omega) _ HV.out).mono ?_; rintro e w' ⟨rfl, rfl⟩
  go_wp2_with fail
  have x0 : Ext w (w.alloc (.cells (Array.replicate nn (.slice none 0 0)) 34)) := (Ext.refl w).alloc (Nat.le_refl _) _
  have r0 : RowsOwn (w.alloc (.cells (Array.replicate nn (.slice none 0 0)) 34)) w.heap.size (.slice (some ⟨w.heap.size, 0, none⟩) 0 nn) [] :=
    ⟨[], Own.mk (Nat.le_refl _) (Row.new w _ _) (Nat.zero_le _) (by simp) rfl (by unfold maxLen; omega), rfl, by simp⟩
  have R0 := Lib.hid r0
  clear r0 hmk' HK
  generalize w.alloc (.cells (Array.replicate nn (.slice none 0 0)) 34) = w2 at x0 R0
  go_loopw [6, 35] (fun v6 v35 wr => ∃ (i : Nat) (xa : Option Addr) (xc : Nat), i ≤ k ∧ v35 = .int .i64 (i : Nat) ∧ v6 = .slice xa i xc ∧ Hid (RowsOwn wr w.heap.size (.slice xa i xc) (D.take i)) ∧ Ext w wr) (fun _ v35 _ => (k - intOf v35).toNat)
  case atStart => exact ⟨0, _, _, by omega, rfl, rfl, R0, x0⟩
  case round =>
    obtain ⟨i, xa, xc, hi, rfl, rfl, hR, hBr⟩ := hrel
    by_cases hlt : i < k
    · have hlt' : (i : Int) < (k : Int) := by omega
      obtain ⟨g1, g2⟩ := HD.out.get hlt
      obtain ⟨rb, ro, ra, rc, rfl, e1, hb⟩ := (HV.out.ext hBr).at g1
      rw [g2] at e1 hb
      obtain ⟨row, hrow⟩ : ∃ row, D.getD i [] = row := ⟨_, rfl⟩
      rw [hrow] at hb g1 g2
      have HP : Hid (D.take i ++ [row] = D.take (i + 1)) := Lib.hid (by rw [List.take_add_one, g1]; rfl)
      have HL : Hid ((D.take i).length ≤ 70000) := Lib.hid (by simp; omega)
      have HB := Lib.hid hb
      have G2 := Lib.hid g2
      clear hb hrow g1 g2
      go_wp2_with fail
      refine (bclone_own _ row (by rw [G2.out]; omega) _ HB.out).mono ?_; rintro e w5 ⟨u, rfl, hU, x5⟩
      obtain ⟨ua, uc, rfl⟩ := Bytes.slice hU.cells
      rw [G2.out] at hU ⊢
      have W := Lib.hid (And.intro hU (And.intro (hR.out.ext x5) (OffB.fresh (r := (Value.slice xa i xc).ownBlock) hU (fun q hq => hR.out.block q hq))))
      have X5 := Lib.hid x5
      clear hU x5 e1
      go_wp2_with (at_builtin; refine list_of_wp rfl fun K hK => wp_row1 _ _ 22 rfl Try.underlying22 rfl rfl rfl W.out.2.1 W.out.1.cells W.out.2.2 (Nat.le_trans hBr.size X5.out.size) HL.out fun ad c w7 hN hB7 => hK _ _ ?_)
      rw [HP.out] at hN
      have HN := Lib.hid hN
      have hB8 := Lib.hid (Below.trans (Below.trans hBr (Below.mono X5.out hBr.size)) hB7)
      clear hN hB7
      go_wp2_with fail
      exact ⟨⟨i + 1, _, _, by omega, by go_num, rfl, HN, hB8.out⟩, by simp [intOf]; omega⟩
    · obtain rfl : i = k := by omega
      have hR0 := hR.out
      rw [← HX.out.enc_le HD.out (Nat.le_refl _)] at hR0
      have HR0 := Lib.hid hR0
      have e0 := Ext.cell hBr CC.out.1
      have e1 := Ext.cell hBr CC.out.2.1
      have e2 := Ext.cell hBr CC.out.2.2
      clear hlt hR hR0 c0 c1 c2 R0
      have kn' : (i : Int) ≤ (nn : Int) := by omega
      have kn0 : 0 ≤ (i : Int) := by omega
      have e4 : ((nn : Int) - (i : Int)).toNat = nn - i := by omega
      go_wp2_with fail
      go_quiet (fail)
      go_wp2_with fail
      have x4 : Ext w (wr.drewN nq) := Ext.trans hBr (Ext.of_drawn _ _)
      have HR4 := Lib.hid (HR0.out.ext (Ext.of_drawn wr nq))
      clear e0 e1 e2 HR0
      generalize wr.drewN nq = w4 at x4 HR4
      obtain ⟨E, hE⟩ : ∃ E, Mat.mmul X D n = E := ⟨_, rfl⟩
      rw [hE] at HR4
      have HE := Lib.hid hE
      obtain ⟨f1, f2⟩ := HD.out.get k1
      go_loopw [6, 55] (fun v6 v55 wr2 => ∃ (j : Nat) (ya : Option Addr) (yc : Nat), j ≤ nn - i ∧ v55 = .int .i64 (j : Nat) ∧ v6 = .slice ya (i + j) yc ∧ Hid (RowsOwn wr2 w.heap.size (.slice ya (i + j) yc) (E.take (i + j))) ∧ Ext w wr2) (fun _ v55 _ => (nn - i - intOf v55).toNat)
      case atStart => exact ⟨0, _, _, by omega, rfl, rfl, HR4, x4⟩
      case round =>
        obtain ⟨j, ya, yc, hj, rfl, rfl, hR2, hB2⟩ := hrel
        rename World => wr2
        by_cases hlt2 : j < nn - i
        · have hlt2' : (j : Int) < (nn : Int) - (i : Int) := by omega
          obtain ⟨g1, g2⟩ := HX.out.sh.get (show i + j < nn by omega)
          obtain ⟨ra, rc, d1, hb⟩ := (HXR.out.ext hB2).rowAt g1
          rw [Nat.zero_add, g2] at d1
          rw [g2] at hb
          obtain ⟨vb, vo, sa, sc, rfl, d2, -⟩ := (HV.out.ext hB2).at f1
          rw [Nat.add_zero, f2] at d2
          obtain ⟨by', hby⟩ : ∃ by', X.getD (i + j) [] = by' := ⟨_, rfl⟩
          rw [hby] at hb g1 g2
          have HP : Hid (E.take (i + j) ++ [Mat.rowk by' D n by'.length] = E.take (i + j + 1)) := Lib.hid (by
            rw [List.take_add_one, ← HE.out]
            have : (Mat.mmul X D n)[i + j]? = some (Mat.rowk by' D n by'.length) := by
              unfold Mat.mmul
              rw [List.getElem?_map, g1, g2, HD.out.1]
              rfl
            rw [this]
            rfl)
          have HL : Hid ((E.take (i + j)).length ≤ 70000) := Lib.hid (by simp; omega)
          have HB := Lib.hid hb
          have G2 := Lib.hid g2
          have hlt3 : (j : Int) < ((nn - i : Nat) : Int) := by omega
          clear hb hby g1 g2
          go_wp2_with fail
          refine (row_any cb i nn X _ _ by' D n hn (by rw [G2.out, HD.out.1]; exact Nat.le_refl _) (by rw [HD.out.1]; omega) (fun x hx => by rw [HD.out.2 x hx]; exact hn) _ (HC.out.ext hB2) HB.out (HV.out.ext hB2)).mono ?_; rintro e w5 ⟨ua, uc, rfl, hU, x5⟩
          have W := Lib.hid (And.intro hU (And.intro (hR2.out.ext x5) (OffB.fresh (r := (Value.slice ya (i + j) yc).ownBlock) hU (fun q hq => hR2.out.block q hq))))
          have X5 := Lib.hid x5
          clear hU x5 d1 d2
          go_wp2_with (at_builtin; refine list_of_wp rfl fun K hK => wp_row1 _ _ 22 rfl Try.underlying22 rfl rfl rfl W.out.2.1 W.out.1.cells W.out.2.2 (Nat.le_trans hB2.size X5.out.size) HL.out fun ad c w7 hN hB7 => hK _ _ ?_)
          rw [HP.out] at hN
          have HN := Lib.hid hN
          have hB8 := Lib.hid (Below.trans (Below.trans hB2 (Below.mono X5.out hB2.size)) hB7)
          clear hN hB7
          go_wp2_with fail
          exact ⟨⟨j + 1, _, _, by omega, by go_num, rfl, HN, hB8.out⟩, by simp [intOf]; omega⟩
        · obtain rfl : j = nn - i := by omega
          have hN := hR2.out
          rw [show E.take (i + (nn - i)) = E from List.take_of_length_le (by rw [← HE.out, (Mat.mmul_sh (b := D) (m := n) HX.out.sh).1]; omega)] at hN
          have HN := Lib.hid hN
          have hge : ¬ ((nn - i : Nat) : Int) < (nn : Int) - (i : Int) := by omega
          clear hN hlt2
          go_wp2_with fail
          go_ret2
          exact ⟨_, rfl, HE.out ▸ HN.out, hB2⟩
end Go.Proofs.Ytdmdcgcmappliaa
