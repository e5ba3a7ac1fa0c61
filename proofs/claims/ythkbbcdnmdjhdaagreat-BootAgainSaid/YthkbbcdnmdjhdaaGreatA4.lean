/-
  matrix.Invert.
  matrix.Invert of what is not square; matrix.Systematic; matrix.Same.
-/
import Derived.Test.YthkbbcdnmdjhdaaGreatA3
import Derived.Test.YthkbbcdnmdjhdaaGreatA1
/-! XMxI: matrix.Invert. -/
namespace Go.Proofs.YthkbbcdnmdjhdaaGreat
open Go.RowKit Gf
set_option maxRecDepth 100000
set_option maxHeartbeats 4000000
attribute [local go_sem] min_int2 max_int2

theorem zeros_at (w w' : World) (n q : Nat) (hq : q = w.heap.size) (hx : Ext (w.alloc (.cells (Array.replicate n (.int .u8 0)) 5)) w') : Bytes w' (.slice (some ⟨q, 0, none⟩) n n) (List.replicate n 0) := by
  subst hq
  exact (zeros_new w n).ext hx
theorem alloc_size (w : World) (o : Obj) : (w.alloc o).heap.size = w.heap.size + 1 := by show (w.heap.push o).size = _; exact Array.size_push _
theorem pair_rows {w3 w7 : World} {B gx gy : Nat} {x y : Mat.M} {u v : Value} {l m : List UInt8} (hX : MR w7 B gx x) (hY : MR w7 B gy y) (hne : gy ≠ gx) (bu : Bytes w7 u l) (bv' : Bytes w7 v m) (i : Nat) (hb : Below B w3 w7) :
    MR ((w7.setCell ⟨gx, i, none⟩ u).setCell ⟨gy, i, none⟩ v) B gx (x.set i l) ∧ MR ((w7.setCell ⟨gx, i, none⟩ u).setCell ⟨gy, i, none⟩ v) B gy (y.set i m) ∧ Below B w3 ((w7.setCell ⟨gx, i, none⟩ u).setCell ⟨gy, i, none⟩ v) := by
  have h1 := hX.set bu i
  have h2 := hY.set_other hX (fun e => hne e.symm) i u
  exact ⟨h1.set_other h2 hne i v, h2.set (bv'.other hX i u) i, Below.set (Below.set hb hX.base i u) hY.base i v⟩
theorem invert_any (v : Value) (a : Mat.M) (n : Nat) (h1 : 1 ≤ n ∧ n ≤ 255) (ha : Mat.Sh a n n) (w : World) (hA : BRows w v a) :
    Calls Tryz.prog 147 #[v] w fun e w' => (Mat.minv n a = none ∧ e = .returned (.tuple #[.slice none 0 0, .bool false]) ∧ Ext w w') ∨ (∃ z g, Mat.minv n a = some z ∧ e = .returned (.tuple #[.slice (some ⟨g, 0, none⟩) n n, .bool true]) ∧ MR w' w.heap.size g z ∧ Ext w w') := by
  obtain ⟨aa, ac, rfl⟩ := hA.form
  obtain ⟨b0, b1⟩ := h1
  have HSA := Lib.hid ha
  rw [ha.1] at hA
  rw [ha.1]
  have HA := Lib.hid hA
  clear hA ha
  go_enter Tryz.func147, Tryz.ntmps147
  go_wp2_with fail
  refine (square_good _ a n n b0 b1 b0 b1 HSA.out _ (by exact HA.out)).mono ?_; rintro e w1 ⟨rfl, x1⟩
  have X1 := Lib.hid x1
  clear x1
  rw [decide_eq_true (rfl : n = n)]
  go_wp2_with fail
  refine (new_any _).mono ?_; rintro e w3 ⟨t, ht, rfl, hT, x3⟩
  have X3 := Lib.hid (Ext.trans X1.out x3)
  have HT := Lib.hid hT
  clear x3 ht hT
  go_wp2_with fail
  refine (clone_any _ a (by rw [HSA.out.1]; omega) (fun r hr => by rw [HSA.out.2 r hr]; omega) _ (HA.out.ext X3.out)).mono ?_; rintro e w4 ⟨gx, rfl, hX, x4⟩
  rw [HSA.out.1]
  have hxl := hX.lt
  have HX := Lib.hid hX
  have X4 := Lib.hid x4
  clear x4 hX
  go_wp2_with fail
  refine (unit_any n b0 b1 _).mono ?_; rintro e w5 ⟨gy, vs, rfl, hY, x5⟩
  have hgy := hY.base
  have hne : gy ≠ gx := by omega
  have HX5 := Lib.hid (HX.out.ext x5)
  have HY5 := Lib.hid (hY.mr.mono X4.out.size)
  have X5 := Lib.hid (Ext.trans X4.out x5)
  clear x5 hY hgy hxl HX
  go_wp2_with fail
  go_loopw [24] (fun v24 wr => ∃ (c : Nat) (x y : Mat.M), c ≤ n ∧ v24 = .int .i64 (c : Nat) ∧ Hid (Mat.Sh x n n) ∧ Hid (Mat.Sh y n n) ∧ Hid (MR wr w3.heap.size gx x) ∧ Hid (MR wr w3.heap.size gy y) ∧ Hid (Mat.minv n a = Mat.gj n (n - c) c x y) ∧ Below w3.heap.size w3 wr) (fun v24 _ => (n - intOf v24).toNat)
  case atStart => exact ⟨0, a, Mat.unit n, by omega, rfl, HSA, Lib.hid (Mat.unit_sh n), HX5, HY5, Lib.hid rfl, X5.out⟩
  case round =>
    obtain ⟨c, x, y, hc, rfl, SX, SY, RX, RY, hJ, hBr⟩ := hrel
    by_cases hlt : c < n
    · have hlt' : (c : Int) < (n : Int) := by omega
      go_wp2_with fail
      refine (pivot_any n c _ gx gy x y (by omega) hlt SX.out SY.out _ RX.out RY.out hne).mono ?_
      rintro e w6 (⟨hpv, rfl, hb⟩ | ⟨p, hpv, rfl, hX, hY, hb⟩)
      · have HF := Lib.hid (Ext.trans X3.out (Below.trans hBr hb))
        have HN := Lib.hid (show Mat.minv n a = none by
          rw [hJ.out, show n - c = (n - (c + 1)) + 1 by omega]
          unfold Mat.gj
          rw [hpv])
        clear hpv hb hlt'
        go_wp2_with fail
        go_ret2
        exact .inl ⟨HN.out, rfl, HF.out⟩
      · have hpc : c ≤ p ∧ p < n ∧ Mat.en x p c ≠ 0 := by
          have := Mat.pvf_some hpv
          exact ⟨this.1, by have := this.2.1; omega, this.2.2⟩
        have hstep : Mat.minv n a = Mat.gj n (n - (c + 1)) (c + 1) (Mat.stepX x n c p) (Mat.stepY x y n c p) := by
          rw [hJ.out, show n - c = (n - (c + 1)) + 1 by omega]
          rw [Mat.gj, hpv]
        have hB6 := Below.trans hBr hb
        obtain ⟨x1, hx1⟩ : ∃ x1, Mat.swap x c p = x1 := ⟨_, rfl⟩
        obtain ⟨y1, hy1⟩ : ∃ y1, Mat.swap y c p = y1 := ⟨_, rfl⟩
        have S1 : Mat.Sh x1 n n := by rw [← hx1]; exact Mat.swap_sh SX.out hlt hpc.2.1
        have T1 : Mat.Sh y1 n n := by rw [← hy1]; exact Mat.swap_sh SY.out hlt hpc.2.1
        have hz : Mat.en x1 c c ≠ 0 := by
          have : Mat.en x1 c c = Mat.en x p c := by
            show (x1.getD c []).getD c 0 = (x.getD p []).getD c 0
            rw [← hx1, Mat.swap_row SX.out hlt hpc.2.1, if_pos rfl]
          rw [this]; exact hpc.2.2
        rw [hx1] at hX
        rw [hy1] at hY
        have hstep2 : Mat.minv n a = Mat.gj n (n - (c + 1)) (c + 1) (Mat.clear (Mat.scale x1 n c (Mat.gi (Mat.en x1 c c))) c (fun i => Mat.en (Mat.scale x1 n c (Mat.gi (Mat.en x1 c c))) i c) n) (Mat.clear (Mat.scale y1 n c (Mat.gi (Mat.en x1 c c))) c (fun i => Mat.en (Mat.scale x1 n c (Mat.gi (Mat.en x1 c c))) i c) n) := by
          rw [hstep, ← hx1, ← hy1]; rfl
        obtain ⟨g1, g2⟩ := S1.get hlt
        obtain ⟨g3, g4⟩ := T1.get hlt
        obtain ⟨xa, xc, c1, hrx⟩ := hX.at g1
        obtain ⟨ya, yc, d1, hry⟩ := hY.at g3
        rw [g2] at c1 hrx
        rw [g4] at d1 hry
        obtain ⟨xb, xo, rfl⟩ := hrx.open1 (by omega)
        have c2 := hrx.cellAt (bytes_get (show c < (x1.getD c []).length by omega))
        have hen : (x1.getD c []).getD c 0 = Mat.en x1 c c := rfl
        rw [hen] at c2
        generalize hzz : Mat.en x1 c c = z at hz c2 hstep2
        have H2 := Lib.hid hstep2
        have Z := Lib.hid hz
        have HX := Lib.hid hX
        have HY := Lib.hid hY
        have HRX := Lib.hid hrx
        have HRY := Lib.hid hry
        have G2 := Lib.hid g2
        have G4 := Lib.hid g4
        have HS1 := Lib.hid S1
        have HT1 := Lib.hid T1
        have HB6 := Lib.hid hB6
        clear hstep hstep2 hx1 hy1 hzz hen hpc hpv hz hX hY hrx hry g1 g2 g3 g4 S1 T1 hb hB6 SX SY RX RY hJ hBr
        go_wp2_with fail
        refine (inv_any t z.toNat (u8lt z) (Mat.ne_toNat Z.out) _ (HT.out.ext HB6.out)).mono ?_; rintro e w' ⟨rfl, rfl⟩
        have hgi : ginv z.toNat = (Mat.gi z).toNat := (Mat.gi_toNat z).symm
        rw [hgi]
        clear hgi
        go_wp2_with fail
        have hmk := make_byt n (by omega)
        have u1 := HX.out.unfrozen c
        have v1 := HY.out.unfrozen c
        have mg : ∀ (w' : World) (q : Nat) (v : Value) (s : List UInt8), s.length = n → Ext w6 w' → Bytes w' (.slice (some ⟨q, 0, none⟩) n n) (List.replicate n 0) → Bytes w' v s → Calls Tryz.prog 169 #[.pointer (some ⟨t, 0, none⟩), .slice (some ⟨q, 0, none⟩) n n, v, .int .u8 (Mat.gi z).toNat] w' fun e w5 =>
            ∃ ua uc, e = .returned (.slice ua n uc) ∧ Hid (Bytes w5 (.slice ua n uc) (mad (List.replicate n 0) s (Mat.gi z))) ∧ Ext w' w5 ∧ w5.cell? ⟨gx, c, none⟩ = some (.slice (some ⟨xb, xo, none⟩) n xc) ∧ w5.cell? ⟨gy, c, none⟩ = some (.slice ya n yc) ∧ w5.frozen? ⟨gx, c, none⟩ = false ∧ w5.frozen? ⟨gy, c, none⟩ = false ∧ (w5.alloc (.cells (Array.replicate n (.int .u8 0)) 5)).cell? ⟨gy, c, none⟩ = some (.slice ya n yc) := by
          intro w' q v s hs e hz0 hv
          refine (muladd_any t (List.replicate n 0) s (Mat.gi z) _ _ _ (HT.out.ext (Below.trans HB6.out (Below.mono e HB6.out.size))) (by simp; omega) (by omega) hz0 hv).mono ?_
          rintro e' w5 ⟨u, rfl, hU, hx5⟩
          have hul : (mad (List.replicate n 0) s (Mat.gi z)).length = n := by rw [mad_length]; simp
          obtain ⟨ua, uc, rfl⟩ := Bytes.slice hU.cells
          rw [hul]
          have hx6 := Ext.trans e hx5
          exact ⟨ua, uc, rfl, Lib.hid (by have := hU.cells; rw [hul] at this; exact this), hx5, Ext.cell hx6 c1, Ext.cell hx6 d1, Ext.unfrozen hx6 c1 u1, Ext.unfrozen hx6 d1 v1, Ext.cell (Ext.trans hx6 ((Ext.refl _).alloc (Nat.le_refl _) _)) d1⟩
        have mgh := Lib.hid mg
        clear mg
        have mg := mgh
        clear mgh
        have hSx : ∀ w', Ext w6 w' → (fun w' : World => w'.cell? ⟨gx, c, none⟩ = some (.slice (some ⟨xb, xo, none⟩) n xc) ∧ w'.cell? ⟨gy, c, none⟩ = some (.slice ya n yc)) w' := fun w' e => ⟨Ext.cell e c1, Ext.cell e d1⟩
        have hlS : ∀ wl : World, (fun w' : World => w'.cell? ⟨gx, c, none⟩ = some (.slice (some ⟨xb, xo, none⟩) n xc) ∧ w'.cell? ⟨gy, c, none⟩ = some (.slice ya n yc)) wl → wl.cell? ⟨gx, c, none⟩ = some (.slice (some ⟨xb, xo, none⟩) n xc) ∧ wl.cell? ⟨gy, c, none⟩ = some (.slice ya n yc) ∧ True ∧ True := fun wl h => ⟨h.1, h.2, trivial, trivial⟩
        have hS := hSx w6.drew (Ext.of_drawn _ 1)
        refine wp_cut [44, 45, 46, 47, 48, 49, 50, 51, 52, 53, 54, 55, 56, 57, 58, 59, 60, 61, 62, 63, 64, 65, 66, 67] (fun w8 => MR w8 w3.heap.size gx (Mat.scale x1 n c (Mat.gi z)) ∧ MR w8 w3.heap.size gy (Mat.scale y1 n c (Mat.gi z)) ∧ Below w3.heap.size w3 w8) ?_ ?_
        · refine wp_region_U (fun w' : World => w'.cell? ⟨gx, c, none⟩ = some (.slice (some ⟨xb, xo, none⟩) n xc) ∧ w'.cell? ⟨gy, c, none⟩ = some (.slice ya n yc)) 23 (by kernel_rfl) ?_
          refine wpU_pure (i := 0) (v := ?_) rfl (by kernel_rfl) (by kernel_rfl) (by kernel_rfl) (by decide) (fun _ _ _ h => h) (fun _ => hS) (Or.inl ⟨by rfl, fun _ _ => ?_⟩) ?_
          rotate_left
          · go_simp
            try with_reducible rfl
          try simp only [Act.put]
          refine wpU_pure (i := 1) (v := ?_) rfl (by kernel_rfl) (by kernel_rfl) (by kernel_rfl) (by decide) (fun _ _ _ h => h) (fun _ => hS) (Or.inl ⟨by rfl, fun _ _ => ?_⟩) ?_
          rotate_left
          · go_simp
            try with_reducible rfl
          try simp only [Act.put]
          refine wpU_pure (i := 2) (v := ?_) rfl (by kernel_rfl) (by kernel_rfl) (by kernel_rfl) (by decide) (fun _ _ _ h => h) (fun _ => hS) (Or.inl ⟨by rfl, fun _ _ => ?_⟩) ?_
          rotate_left
          · go_simp
            try with_reducible rfl
          try simp only [Act.put]
          refine wpU_pure (i := 3) (v := ?_) rfl (by kernel_rfl) (by kernel_rfl) (by kernel_rfl) (by decide) (fun _ _ _ h => h) (fun _ => hS) (Or.inl ⟨by rfl, fun _ _ => ?_⟩) ?_
          rotate_left
          · go_simp
            try with_reducible rfl
          try simp only [Act.put]
          refine wpU_pure (i := 4) (v := ?_) rfl (by kernel_rfl) (by kernel_rfl) (by kernel_rfl) (by decide) (fun _ _ _ h => h) (fun _ => hS) (Or.inl ⟨by rfl, fun _ _ => ?_⟩) ?_
          rotate_left
          · go_simp
            try with_reducible rfl
          try simp only [Act.put]
          refine wpU_pure (i := 5) (v := ?_) rfl (by kernel_rfl) (by kernel_rfl) (by kernel_rfl) (by decide) (fun _ _ _ h => h) (fun _ => hS) (Or.inl ⟨by rfl, fun _ _ => ?_⟩) ?_
          rotate_left
          · go_simp
            try with_reducible rfl
          try simp only [Act.put]
          refine wpU_pure (i := 7) (v := ?_) rfl (by kernel_rfl) (by kernel_rfl) (by kernel_rfl) (by decide) (fun _ _ _ h => h) (fun _ => hS) (Or.inl ⟨by rfl, fun _ _ => ?_⟩) ?_
          rotate_left
          · go_simp
            try with_reducible rfl
          try simp only [Act.put]
          refine wpU_pure (i := 8) (v := ?_) rfl (by kernel_rfl) (by kernel_rfl) (by kernel_rfl) (by decide) (fun _ _ _ h => h) (fun _ => hS) (Or.inl ⟨by rfl, fun _ _ => ?_⟩) ?_
          rotate_left
          · go_simp
            try with_reducible rfl
          try simp only [Act.put]
          refine wpU_pure (i := 9) (v := ?_) rfl (by kernel_rfl) (by kernel_rfl) (by kernel_rfl) (by decide) (fun _ _ _ h => h) (fun _ => hS) (Or.inl ⟨by rfl, fun _ _ => ?_⟩) ?_
          rotate_left
          · go_simp
            try with_reducible rfl
          try simp only [Act.put]
          refine wpU_load (i := 10) (v := ?_) rfl (by kernel_rfl) (by kernel_rfl) (by kernel_rfl) (by decide) (by kernel_rfl) (by kernel_rfl) (fun _ _ _ h => h) hS (Or.inl ⟨by rfl, fun wl hl => ?_⟩) ?_
          rotate_left
          · have hl2 := hlS wl hl
            obtain ⟨l1, l2, l3, l4⟩ := hl2
            go_simp
            try with_reducible rfl
          try simp only [Act.put]
          refine wpU_pure (i := 11) (v := ?_) rfl (by kernel_rfl) (by kernel_rfl) (by kernel_rfl) (by decide) (fun _ _ _ h => h) (fun _ => hS) (Or.inl ⟨by rfl, fun _ _ => ?_⟩) ?_
          rotate_left
          · go_simp
            try with_reducible rfl
          try simp only [Act.put]
          refine wpU_pure (i := 13) (v := ?_) rfl (by kernel_rfl) (by kernel_rfl) (by kernel_rfl) (by decide) (fun _ _ _ h => h) (fun _ => hS) (Or.inl ⟨by rfl, fun _ _ => ?_⟩) ?_
          rotate_left
          · go_simp
            try with_reducible rfl
          try simp only [Act.put]
          refine wpU_pure (i := 14) (v := ?_) rfl (by kernel_rfl) (by kernel_rfl) (by kernel_rfl) (by decide) (fun _ _ _ h => h) (fun _ => hS) (Or.inl ⟨by rfl, fun _ _ => ?_⟩) ?_
          rotate_left
          · go_simp
            try with_reducible rfl
          try simp only [Act.put]
          refine wpU_pure (i := 16) (v := ?_) rfl (by kernel_rfl) (by kernel_rfl) (by kernel_rfl) (by decide) (fun _ _ _ h => h) (fun _ => hS) (Or.inl ⟨by rfl, fun _ _ => ?_⟩) ?_
          rotate_left
          · go_simp
            try with_reducible rfl
          try simp only [Act.put]
          refine wpU_pure (i := 17) (v := ?_) rfl (by kernel_rfl) (by kernel_rfl) (by kernel_rfl) (by decide) (fun _ _ _ h => h) (fun _ => hS) (Or.inl ⟨by rfl, fun _ _ => ?_⟩) ?_
          rotate_left
          · go_simp
            try with_reducible rfl
          try simp only [Act.put]
          refine wpU_pure (i := 18) (v := ?_) rfl (by kernel_rfl) (by kernel_rfl) (by kernel_rfl) (by decide) (fun _ _ _ h => h) (fun _ => hS) (Or.inl ⟨by rfl, fun _ _ => ?_⟩) ?_
          rotate_left
          · go_simp
            try with_reducible rfl
          try simp only [Act.put]
          refine wpU_load (i := 19) (v := ?_) rfl (by kernel_rfl) (by kernel_rfl) (by kernel_rfl) (by decide) (by kernel_rfl) (by kernel_rfl) (fun _ _ _ h => h) hS (Or.inl ⟨by rfl, fun wl hl => ?_⟩) ?_
          rotate_left
          · have hl2 := hlS wl hl
            obtain ⟨l1, l2, l3, l4⟩ := hl2
            go_simp
            try with_reducible rfl
          try simp only [Act.put]
          refine wpU_pure (i := 20) (v := ?_) rfl (by kernel_rfl) (by kernel_rfl) (by kernel_rfl) (by decide) (fun _ _ _ h => h) (fun _ => hS) (Or.inl ⟨by rfl, fun _ _ => ?_⟩) ?_
          rotate_left
          · go_simp
            try with_reducible rfl
          try simp only [Act.put]
          refine wpU_all [6, 15] (by kernel_rfl) (by simp) ?_
          refine ReadyU.cons rfl (fun K hK => ?_) (ReadyU.cons rfl (fun K hK => ?_) (ReadyU.nil))
          · go_simp
            refine hK.out _ _ (fun _ => hSx _ (by repeat (first | exact Ext.of_drawn _ 1 | exact Ext.refl _ | exact (Ext.refl _).alloc (Nat.le_refl _) _ | assumption | refine Ext.trans ?_ (Ext.of_drawn _ 1) | refine Ext.trans ?_ ((Ext.refl _).alloc (Nat.le_refl _) _) | refine Ext.trans ?_ hx5))) ?_
            clear hK K
            refine wpU_all [12, 15] (by kernel_rfl) (by simp) ?_
            refine ReadyU.cons rfl (fun K hK => ?_) (ReadyU.cons rfl (fun K hK => ?_) (ReadyU.nil))
            · go_simp
              refine (mg.out _ _ _ (x1.getD c []) G2.out (by repeat (first | exact Ext.of_drawn _ 1 | exact Ext.refl _ | exact (Ext.refl _).alloc (Nat.le_refl _) _ | assumption | refine Ext.trans ?_ (Ext.of_drawn _ 1) | refine Ext.trans ?_ ((Ext.refl _).alloc (Nat.le_refl _) _) | refine Ext.trans ?_ hx5)) (by first | exact zeros_at w6 _ n _ rfl (by repeat (first | exact Ext.of_drawn _ 1 | exact Ext.refl _ | exact (Ext.refl _).alloc (Nat.le_refl _) _ | assumption | refine Ext.trans ?_ (Ext.of_drawn _ 1) | refine Ext.trans ?_ ((Ext.refl _).alloc (Nat.le_refl _) _) | refine Ext.trans ?_ hx5)) | exact zeros_at (w6.alloc (.cells (Array.replicate n (.int .u8 0)) 5)) _ n _ (alloc_size _ _).symm (by repeat (first | exact Ext.of_drawn _ 1 | exact Ext.refl _ | exact (Ext.refl _).alloc (Nat.le_refl _) _ | assumption | refine Ext.trans ?_ (Ext.of_drawn _ 1) | refine Ext.trans ?_ ((Ext.refl _).alloc (Nat.le_refl _) _) | refine Ext.trans ?_ hx5)) | exact zeros_at w5 _ n _ rfl (by repeat (first | exact Ext.of_drawn _ 1 | exact Ext.refl _ | exact (Ext.refl _).alloc (Nat.le_refl _) _ | assumption | refine Ext.trans ?_ (Ext.of_drawn _ 1) | refine Ext.trans ?_ ((Ext.refl _).alloc (Nat.le_refl _) _) | refine Ext.trans ?_ hx5))) (HRX.out.ext (by repeat (first | exact Ext.of_drawn _ 1 | exact Ext.refl _ | exact (Ext.refl _).alloc (Nat.le_refl _) _ | assumption | refine Ext.trans ?_ (Ext.of_drawn _ 1) | refine Ext.trans ?_ ((Ext.refl _).alloc (Nat.le_refl _) _) | refine Ext.trans ?_ hx5)))).mono ?_
              rintro e w5 ⟨ua, uc, rfl, hu, hx5, k1, k2, k3, k4, k5⟩
              go_simp
              refine hK.out _ _ (fun _ => hSx _ (by repeat (first | exact Ext.of_drawn _ 1 | exact Ext.refl _ | exact (Ext.refl _).alloc (Nat.le_refl _) _ | assumption | refine Ext.trans ?_ (Ext.of_drawn _ 1) | refine Ext.trans ?_ ((Ext.refl _).alloc (Nat.le_refl _) _) | refine Ext.trans ?_ hx5))) ?_
              clear hK K
              refine wpU_all [15] (by kernel_rfl) (by simp) ?_
              refine ReadyU.cons rfl (fun K hK => ?_) (ReadyU.nil)
              go_simp
              refine hK.out _ _ (fun _ => hSx _ (by repeat (first | exact Ext.of_drawn _ 1 | exact Ext.refl _ | exact (Ext.refl _).alloc (Nat.le_refl _) _ | assumption | refine Ext.trans ?_ (Ext.of_drawn _ 1) | refine Ext.trans ?_ ((Ext.refl _).alloc (Nat.le_refl _) _) | refine Ext.trans ?_ hx5))) ?_
              clear hK K
              refine wpU_all [21] (by kernel_rfl) (by simp) ?_
              refine ReadyU.cons rfl (fun K hK => ?_) (ReadyU.nil)
              go_simp
              refine (mg.out _ _ _ (y1.getD c []) G4.out (by repeat (first | exact Ext.of_drawn _ 1 | exact Ext.refl _ | exact (Ext.refl _).alloc (Nat.le_refl _) _ | assumption | refine Ext.trans ?_ (Ext.of_drawn _ 1) | refine Ext.trans ?_ ((Ext.refl _).alloc (Nat.le_refl _) _) | refine Ext.trans ?_ hx5)) (by first | exact zeros_at w6 _ n _ rfl (by repeat (first | exact Ext.of_drawn _ 1 | exact Ext.refl _ | exact (Ext.refl _).alloc (Nat.le_refl _) _ | assumption | refine Ext.trans ?_ (Ext.of_drawn _ 1) | refine Ext.trans ?_ ((Ext.refl _).alloc (Nat.le_refl _) _) | refine Ext.trans ?_ hx5)) | exact zeros_at (w6.alloc (.cells (Array.replicate n (.int .u8 0)) 5)) _ n _ (alloc_size _ _).symm (by repeat (first | exact Ext.of_drawn _ 1 | exact Ext.refl _ | exact (Ext.refl _).alloc (Nat.le_refl _) _ | assumption | refine Ext.trans ?_ (Ext.of_drawn _ 1) | refine Ext.trans ?_ ((Ext.refl _).alloc (Nat.le_refl _) _) | refine Ext.trans ?_ hx5)) | exact zeros_at w5 _ n _ rfl (by repeat (first | exact Ext.of_drawn _ 1 | exact Ext.refl _ | exact (Ext.refl _).alloc (Nat.le_refl _) _ | assumption | refine Ext.trans ?_ (Ext.of_drawn _ 1) | refine Ext.trans ?_ ((Ext.refl _).alloc (Nat.le_refl _) _) | refine Ext.trans ?_ hx5))) (HRY.out.ext (by repeat (first | exact Ext.of_drawn _ 1 | exact Ext.refl _ | exact (Ext.refl _).alloc (Nat.le_refl _) _ | assumption | refine Ext.trans ?_ (Ext.of_drawn _ 1) | refine Ext.trans ?_ ((Ext.refl _).alloc (Nat.le_refl _) _) | refine Ext.trans ?_ hx5)))).mono ?_
              rintro e w7 ⟨va, vc, rfl, hv, hx7, k6, k7, k8, k9, -⟩
              go_simp
              refine hK.out _ _ (fun _ => hSx _ (Ext.trans (by repeat (first | exact Ext.of_drawn _ 1 | exact Ext.refl _ | exact (Ext.refl _).alloc (Nat.le_refl _) _ | assumption | refine Ext.trans ?_ (Ext.of_drawn _ 1) | refine Ext.trans ?_ ((Ext.refl _).alloc (Nat.le_refl _) _) | refine Ext.trans ?_ hx5)) hx7)) ?_
              clear hK K
              refine wpU_all [22] (by kernel_rfl) (by simp) ?_
              refine ReadyU.cons rfl (fun K hK => ?_) (ReadyU.nil)
              go_simp
              refine hK.out _ _ (fun _ => hSx _ (Ext.trans (by repeat (first | exact Ext.of_drawn _ 1 | exact Ext.refl _ | exact (Ext.refl _).alloc (Nat.le_refl _) _ | assumption | refine Ext.trans ?_ (Ext.of_drawn _ 1) | refine Ext.trans ?_ ((Ext.refl _).alloc (Nat.le_refl _) _) | refine Ext.trans ?_ hx5)) hx7)) ?_
              clear hK K
              refine wpU_all [23] (by kernel_rfl) (by simp) ?_
              refine ReadyU.cons rfl (fun K hK => ?_) (ReadyU.nil)
              go_simp
              refine hK.out _ _ (fun h => Bool.noConfusion (show true = false from h)) ?_
              clear hK K
              refine wpU_pure (i := 24) (v := ?_) rfl (by kernel_rfl) (by kernel_rfl) (by kernel_rfl) (by decide) (fun _ _ _ h => h) (fun h => Bool.noConfusion (show true = false from h)) (Or.inl ⟨by rfl, fun _ _ => ?_⟩) ?_
              rotate_left
              · go_simp
                try with_reducible rfl
              try simp only [Act.put]
              refine wpU_all [25] (by kernel_rfl) (by simp) ?_
              refine ReadyU.cons rfl (fun K hK => ?_) (ReadyU.nil)
              go_simp
              refine hK.out _ _ (fun h => Bool.noConfusion (show true = false from h)) ?_
              clear hK K
              refine wpU_done (by kernel_rfl) ?_ _
              have e57 : Ext w5 w7 := by first | exact hx7 | exact Ext.trans ((Ext.refl _).alloc (Nat.le_refl _) _) hx7
              have e67 : Ext w6 w7 := Ext.trans (by repeat (first | exact Ext.of_drawn _ 1 | exact Ext.refl _ | exact (Ext.refl _).alloc (Nat.le_refl _) _ | assumption | refine Ext.trans ?_ (Ext.of_drawn _ 1) | refine Ext.trans ?_ ((Ext.refl _).alloc (Nat.le_refl _) _) | refine Ext.trans ?_ hx5)) hx7
              exact cut_end (pair_rows (HX.out.ext e67) (HY.out.ext e67) hne (hu.out.ext e57) hv.out c (Below.trans HB6.out (Below.mono e67 HB6.out.size))) (by kernel_rfl)
            · go_simp
              refine hK.out _ _ (fun _ => hSx _ (by repeat (first | exact Ext.of_drawn _ 1 | exact Ext.refl _ | exact (Ext.refl _).alloc (Nat.le_refl _) _ | assumption | refine Ext.trans ?_ (Ext.of_drawn _ 1) | refine Ext.trans ?_ ((Ext.refl _).alloc (Nat.le_refl _) _) | refine Ext.trans ?_ hx5))) ?_
              clear hK K
              refine wpU_all [12] (by kernel_rfl) (by simp) ?_
              refine ReadyU.cons rfl (fun K hK => ?_) (ReadyU.nil)
              go_simp
              refine (mg.out _ _ _ (x1.getD c []) G2.out (by repeat (first | exact Ext.of_drawn _ 1 | exact Ext.refl _ | exact (Ext.refl _).alloc (Nat.le_refl _) _ | assumption | refine Ext.trans ?_ (Ext.of_drawn _ 1) | refine Ext.trans ?_ ((Ext.refl _).alloc (Nat.le_refl _) _) | refine Ext.trans ?_ hx5)) (by first | exact zeros_at w6 _ n _ rfl (by repeat (first | exact Ext.of_drawn _ 1 | exact Ext.refl _ | exact (Ext.refl _).alloc (Nat.le_refl _) _ | assumption | refine Ext.trans ?_ (Ext.of_drawn _ 1) | refine Ext.trans ?_ ((Ext.refl _).alloc (Nat.le_refl _) _) | refine Ext.trans ?_ hx5)) | exact zeros_at (w6.alloc (.cells (Array.replicate n (.int .u8 0)) 5)) _ n _ (alloc_size _ _).symm (by repeat (first | exact Ext.of_drawn _ 1 | exact Ext.refl _ | exact (Ext.refl _).alloc (Nat.le_refl _) _ | assumption | refine Ext.trans ?_ (Ext.of_drawn _ 1) | refine Ext.trans ?_ ((Ext.refl _).alloc (Nat.le_refl _) _) | refine Ext.trans ?_ hx5)) | exact zeros_at w5 _ n _ rfl (by repeat (first | exact Ext.of_drawn _ 1 | exact Ext.refl _ | exact (Ext.refl _).alloc (Nat.le_refl _) _ | assumption | refine Ext.trans ?_ (Ext.of_drawn _ 1) | refine Ext.trans ?_ ((Ext.refl _).alloc (Nat.le_refl _) _) | refine Ext.trans ?_ hx5))) (HRX.out.ext (by repeat (first | exact Ext.of_drawn _ 1 | exact Ext.refl _ | exact (Ext.refl _).alloc (Nat.le_refl _) _ | assumption | refine Ext.trans ?_ (Ext.of_drawn _ 1) | refine Ext.trans ?_ ((Ext.refl _).alloc (Nat.le_refl _) _) | refine Ext.trans ?_ hx5)))).mono ?_
              rintro e w5 ⟨ua, uc, rfl, hu, hx5, k1, k2, k3, k4, k5⟩
              go_simp
              refine hK.out _ _ (fun _ => hSx _ (by repeat (first | exact Ext.of_drawn _ 1 | exact Ext.refl _ | exact (Ext.refl _).alloc (Nat.le_refl _) _ | assumption | refine Ext.trans ?_ (Ext.of_drawn _ 1) | refine Ext.trans ?_ ((Ext.refl _).alloc (Nat.le_refl _) _) | refine Ext.trans ?_ hx5))) ?_
              clear hK K
              refine wpU_all [21] (by kernel_rfl) (by simp) ?_
              refine ReadyU.cons rfl (fun K hK => ?_) (ReadyU.nil)
              go_simp
              refine (mg.out _ _ _ (y1.getD c []) G4.out (by repeat (first | exact Ext.of_drawn _ 1 | exact Ext.refl _ | exact (Ext.refl _).alloc (Nat.le_refl _) _ | assumption | refine Ext.trans ?_ (Ext.of_drawn _ 1) | refine Ext.trans ?_ ((Ext.refl _).alloc (Nat.le_refl _) _) | refine Ext.trans ?_ hx5)) (by first | exact zeros_at w6 _ n _ rfl (by repeat (first | exact Ext.of_drawn _ 1 | exact Ext.refl _ | exact (Ext.refl _).alloc (Nat.le_refl _) _ | assumption | refine Ext.trans ?_ (Ext.of_drawn _ 1) | refine Ext.trans ?_ ((Ext.refl _).alloc (Nat.le_refl _) _) | refine Ext.trans ?_ hx5)) | exact zeros_at (w6.alloc (.cells (Array.replicate n (.int .u8 0)) 5)) _ n _ (alloc_size _ _).symm (by repeat (first | exact Ext.of_drawn _ 1 | exact Ext.refl _ | exact (Ext.refl _).alloc (Nat.le_refl _) _ | assumption | refine Ext.trans ?_ (Ext.of_drawn _ 1) | refine Ext.trans ?_ ((Ext.refl _).alloc (Nat.le_refl _) _) | refine Ext.trans ?_ hx5)) | exact zeros_at w5 _ n _ rfl (by repeat (first | exact Ext.of_drawn _ 1 | exact Ext.refl _ | exact (Ext.refl _).alloc (Nat.le_refl _) _ | assumption | refine Ext.trans ?_ (Ext.of_drawn _ 1) | refine Ext.trans ?_ ((Ext.refl _).alloc (Nat.le_refl _) _) | refine Ext.trans ?_ hx5))) (HRY.out.ext (by repeat (first | exact Ext.of_drawn _ 1 | exact Ext.refl _ | exact (Ext.refl _).alloc (Nat.le_refl _) _ | assumption | refine Ext.trans ?_ (Ext.of_drawn _ 1) | refine Ext.trans ?_ ((Ext.refl _).alloc (Nat.le_refl _) _) | refine Ext.trans ?_ hx5)))).mono ?_
              rintro e w7 ⟨va, vc, rfl, hv, hx7, k6, k7, k8, k9, -⟩
              go_simp
              refine hK.out _ _ (fun _ => hSx _ (Ext.trans (by repeat (first | exact Ext.of_drawn _ 1 | exact Ext.refl _ | exact (Ext.refl _).alloc (Nat.le_refl _) _ | assumption | refine Ext.trans ?_ (Ext.of_drawn _ 1) | refine Ext.trans ?_ ((Ext.refl _).alloc (Nat.le_refl _) _) | refine Ext.trans ?_ hx5)) hx7)) ?_
              clear hK K
              refine wpU_all [22] (by kernel_rfl) (by simp) ?_
              refine ReadyU.cons rfl (fun K hK => ?_) (ReadyU.nil)
              go_simp
              refine hK.out _ _ (fun _ => hSx _ (Ext.trans (by repeat (first | exact Ext.of_drawn _ 1 | exact Ext.refl _ | exact (Ext.refl _).alloc (Nat.le_refl _) _ | assumption | refine Ext.trans ?_ (Ext.of_drawn _ 1) | refine Ext.trans ?_ ((Ext.refl _).alloc (Nat.le_refl _) _) | refine Ext.trans ?_ hx5)) hx7)) ?_
              clear hK K
              refine wpU_all [23] (by kernel_rfl) (by simp) ?_
              refine ReadyU.cons rfl (fun K hK => ?_) (ReadyU.nil)
              go_simp
              refine hK.out _ _ (fun h => Bool.noConfusion (show true = false from h)) ?_
              clear hK K
              refine wpU_pure (i := 24) (v := ?_) rfl (by kernel_rfl) (by kernel_rfl) (by kernel_rfl) (by decide) (fun _ _ _ h => h) (fun h => Bool.noConfusion (show true = false from h)) (Or.inl ⟨by rfl, fun _ _ => ?_⟩) ?_
              rotate_left
              · go_simp
                try with_reducible rfl
              try simp only [Act.put]
              refine wpU_all [25] (by kernel_rfl) (by simp) ?_
              refine ReadyU.cons rfl (fun K hK => ?_) (ReadyU.nil)
              go_simp
              refine hK.out _ _ (fun h => Bool.noConfusion (show true = false from h)) ?_
              clear hK K
              refine wpU_done (by kernel_rfl) ?_ _
              have e57 : Ext w5 w7 := by first | exact hx7 | exact Ext.trans ((Ext.refl _).alloc (Nat.le_refl _) _) hx7
              have e67 : Ext w6 w7 := Ext.trans (by repeat (first | exact Ext.of_drawn _ 1 | exact Ext.refl _ | exact (Ext.refl _).alloc (Nat.le_refl _) _ | assumption | refine Ext.trans ?_ (Ext.of_drawn _ 1) | refine Ext.trans ?_ ((Ext.refl _).alloc (Nat.le_refl _) _) | refine Ext.trans ?_ hx5)) hx7
              exact cut_end (pair_rows (HX.out.ext e67) (HY.out.ext e67) hne (hu.out.ext e57) hv.out c (Below.trans HB6.out (Below.mono e67 HB6.out.size))) (by kernel_rfl)
          · go_simp
            refine hK.out _ _ (fun _ => hSx _ (by repeat (first | exact Ext.of_drawn _ 1 | exact Ext.refl _ | exact (Ext.refl _).alloc (Nat.le_refl _) _ | assumption | refine Ext.trans ?_ (Ext.of_drawn _ 1) | refine Ext.trans ?_ ((Ext.refl _).alloc (Nat.le_refl _) _) | refine Ext.trans ?_ hx5))) ?_
            clear hK K
            refine wpU_all [6] (by kernel_rfl) (by simp) ?_
            refine ReadyU.cons rfl (fun K hK => ?_) (ReadyU.nil)
            go_simp
            refine hK.out _ _ (fun _ => hSx _ (by repeat (first | exact Ext.of_drawn _ 1 | exact Ext.refl _ | exact (Ext.refl _).alloc (Nat.le_refl _) _ | assumption | refine Ext.trans ?_ (Ext.of_drawn _ 1) | refine Ext.trans ?_ ((Ext.refl _).alloc (Nat.le_refl _) _) | refine Ext.trans ?_ hx5))) ?_
            clear hK K
            refine wpU_all [12] (by kernel_rfl) (by simp) ?_
            refine ReadyU.cons rfl (fun K hK => ?_) (ReadyU.nil)
            go_simp
            refine (mg.out _ _ _ (x1.getD c []) G2.out (by repeat (first | exact Ext.of_drawn _ 1 | exact Ext.refl _ | exact (Ext.refl _).alloc (Nat.le_refl _) _ | assumption | refine Ext.trans ?_ (Ext.of_drawn _ 1) | refine Ext.trans ?_ ((Ext.refl _).alloc (Nat.le_refl _) _) | refine Ext.trans ?_ hx5)) (by first | exact zeros_at w6 _ n _ rfl (by repeat (first | exact Ext.of_drawn _ 1 | exact Ext.refl _ | exact (Ext.refl _).alloc (Nat.le_refl _) _ | assumption | refine Ext.trans ?_ (Ext.of_drawn _ 1) | refine Ext.trans ?_ ((Ext.refl _).alloc (Nat.le_refl _) _) | refine Ext.trans ?_ hx5)) | exact zeros_at (w6.alloc (.cells (Array.replicate n (.int .u8 0)) 5)) _ n _ (alloc_size _ _).symm (by repeat (first | exact Ext.of_drawn _ 1 | exact Ext.refl _ | exact (Ext.refl _).alloc (Nat.le_refl _) _ | assumption | refine Ext.trans ?_ (Ext.of_drawn _ 1) | refine Ext.trans ?_ ((Ext.refl _).alloc (Nat.le_refl _) _) | refine Ext.trans ?_ hx5)) | exact zeros_at w5 _ n _ rfl (by repeat (first | exact Ext.of_drawn _ 1 | exact Ext.refl _ | exact (Ext.refl _).alloc (Nat.le_refl _) _ | assumption | refine Ext.trans ?_ (Ext.of_drawn _ 1) | refine Ext.trans ?_ ((Ext.refl _).alloc (Nat.le_refl _) _) | refine Ext.trans ?_ hx5))) (HRX.out.ext (by repeat (first | exact Ext.of_drawn _ 1 | exact Ext.refl _ | exact (Ext.refl _).alloc (Nat.le_refl _) _ | assumption | refine Ext.trans ?_ (Ext.of_drawn _ 1) | refine Ext.trans ?_ ((Ext.refl _).alloc (Nat.le_refl _) _) | refine Ext.trans ?_ hx5)))).mono ?_
            rintro e w5 ⟨ua, uc, rfl, hu, hx5, k1, k2, k3, k4, k5⟩
            go_simp
            refine hK.out _ _ (fun _ => hSx _ (by repeat (first | exact Ext.of_drawn _ 1 | exact Ext.refl _ | exact (Ext.refl _).alloc (Nat.le_refl _) _ | assumption | refine Ext.trans ?_ (Ext.of_drawn _ 1) | refine Ext.trans ?_ ((Ext.refl _).alloc (Nat.le_refl _) _) | refine Ext.trans ?_ hx5))) ?_
            clear hK K
            refine wpU_all [21] (by kernel_rfl) (by simp) ?_
            refine ReadyU.cons rfl (fun K hK => ?_) (ReadyU.nil)
            go_simp
            refine (mg.out _ _ _ (y1.getD c []) G4.out (by repeat (first | exact Ext.of_drawn _ 1 | exact Ext.refl _ | exact (Ext.refl _).alloc (Nat.le_refl _) _ | assumption | refine Ext.trans ?_ (Ext.of_drawn _ 1) | refine Ext.trans ?_ ((Ext.refl _).alloc (Nat.le_refl _) _) | refine Ext.trans ?_ hx5)) (by first | exact zeros_at w6 _ n _ rfl (by repeat (first | exact Ext.of_drawn _ 1 | exact Ext.refl _ | exact (Ext.refl _).alloc (Nat.le_refl _) _ | assumption | refine Ext.trans ?_ (Ext.of_drawn _ 1) | refine Ext.trans ?_ ((Ext.refl _).alloc (Nat.le_refl _) _) | refine Ext.trans ?_ hx5)) | exact zeros_at (w6.alloc (.cells (Array.replicate n (.int .u8 0)) 5)) _ n _ (alloc_size _ _).symm (by repeat (first | exact Ext.of_drawn _ 1 | exact Ext.refl _ | exact (Ext.refl _).alloc (Nat.le_refl _) _ | assumption | refine Ext.trans ?_ (Ext.of_drawn _ 1) | refine Ext.trans ?_ ((Ext.refl _).alloc (Nat.le_refl _) _) | refine Ext.trans ?_ hx5)) | exact zeros_at w5 _ n _ rfl (by repeat (first | exact Ext.of_drawn _ 1 | exact Ext.refl _ | exact (Ext.refl _).alloc (Nat.le_refl _) _ | assumption | refine Ext.trans ?_ (Ext.of_drawn _ 1) | refine Ext.trans ?_ ((Ext.refl _).alloc (Nat.le_refl _) _) | refine Ext.trans ?_ hx5))) (HRY.out.ext (by repeat (first | exact Ext.of_drawn _ 1 | exact Ext.refl _ | exact (Ext.refl _).alloc (Nat.le_refl _) _ | assumption | refine Ext.trans ?_ (Ext.of_drawn _ 1) | refine Ext.trans ?_ ((Ext.refl _).alloc (Nat.le_refl _) _) | refine Ext.trans ?_ hx5)))).mono ?_
            rintro e w7 ⟨va, vc, rfl, hv, hx7, k6, k7, k8, k9, -⟩
            go_simp
            refine hK.out _ _ (fun _ => hSx _ (Ext.trans (by repeat (first | exact Ext.of_drawn _ 1 | exact Ext.refl _ | exact (Ext.refl _).alloc (Nat.le_refl _) _ | assumption | refine Ext.trans ?_ (Ext.of_drawn _ 1) | refine Ext.trans ?_ ((Ext.refl _).alloc (Nat.le_refl _) _) | refine Ext.trans ?_ hx5)) hx7)) ?_
            clear hK K
            refine wpU_all [22] (by kernel_rfl) (by simp) ?_
            refine ReadyU.cons rfl (fun K hK => ?_) (ReadyU.nil)
            go_simp
            refine hK.out _ _ (fun _ => hSx _ (Ext.trans (by repeat (first | exact Ext.of_drawn _ 1 | exact Ext.refl _ | exact (Ext.refl _).alloc (Nat.le_refl _) _ | assumption | refine Ext.trans ?_ (Ext.of_drawn _ 1) | refine Ext.trans ?_ ((Ext.refl _).alloc (Nat.le_refl _) _) | refine Ext.trans ?_ hx5)) hx7)) ?_
            clear hK K
            refine wpU_all [23] (by kernel_rfl) (by simp) ?_
            refine ReadyU.cons rfl (fun K hK => ?_) (ReadyU.nil)
            go_simp
            refine hK.out _ _ (fun h => Bool.noConfusion (show true = false from h)) ?_
            clear hK K
            refine wpU_pure (i := 24) (v := ?_) rfl (by kernel_rfl) (by kernel_rfl) (by kernel_rfl) (by decide) (fun _ _ _ h => h) (fun h => Bool.noConfusion (show true = false from h)) (Or.inl ⟨by rfl, fun _ _ => ?_⟩) ?_
            rotate_left
            · go_simp
              try with_reducible rfl
            try simp only [Act.put]
            refine wpU_all [25] (by kernel_rfl) (by simp) ?_
            refine ReadyU.cons rfl (fun K hK => ?_) (ReadyU.nil)
            go_simp
            refine hK.out _ _ (fun h => Bool.noConfusion (show true = false from h)) ?_
            clear hK K
            refine wpU_done (by kernel_rfl) ?_ _
            have e57 : Ext w5 w7 := by first | exact hx7 | exact Ext.trans ((Ext.refl _).alloc (Nat.le_refl _) _) hx7
            have e67 : Ext w6 w7 := Ext.trans (by repeat (first | exact Ext.of_drawn _ 1 | exact Ext.refl _ | exact (Ext.refl _).alloc (Nat.le_refl _) _ | assumption | refine Ext.trans ?_ (Ext.of_drawn _ 1) | refine Ext.trans ?_ ((Ext.refl _).alloc (Nat.le_refl _) _) | refine Ext.trans ?_ hx5)) hx7
            exact cut_end (pair_rows (HX.out.ext e67) (HY.out.ext e67) hne (hu.out.ext e57) hv.out c (Below.trans HB6.out (Below.mono e67 HB6.out.size))) (by kernel_rfl)
        · intro us w8 h8
          simp only [setAll, List.foldl_cons, List.foldl_nil, List.set_cons_zero, List.set_cons_succ]
          have H8 := Lib.hid h8
          clear h8 hS hSx hlS mg u1 v1 c1 d1 c2
          have T2 : Hid (Mat.Sh (Mat.scale x1 n c (Mat.gi z)) n n) := Lib.hid (Mat.scale_sh HS1.out)
          have U2 : Hid (Mat.Sh (Mat.scale y1 n c (Mat.gi z)) n n) := Lib.hid (Mat.scale_sh HT1.out)
          generalize Mat.scale x1 n c (Mat.gi z) = x2 at H8 T2 H2
          generalize Mat.scale y1 n c (Mat.gi z) = y2 at H8 U2 H2
          obtain ⟨gg, hgg⟩ : ∃ gg : Nat → UInt8, (fun i => Mat.en x2 i c) = gg := ⟨_, rfl⟩
          have GG := Lib.hid (fun i => congrFun hgg i)
          have H3 := H2.out
          rw [hgg] at H3
          have H4 := Lib.hid H3
          clear hgg H3 H2 HRX HRY G2 G4 HX HY HB6 HS1 HT1 Z
          go_wp2_with fail
          go_loopw [69] (fun v69 wr2 => ∃ r : Nat, r ≤ n ∧ v69 = .int .i64 (r : Nat) ∧ Hid (MR wr2 w3.heap.size gx (Mat.clear x2 c gg r)) ∧ Hid (MR wr2 w3.heap.size gy (Mat.clear y2 c gg r)) ∧ Below w3.heap.size w3 wr2) (fun v69 _ => (n - intOf v69).toNat)
          case atStart => exact ⟨0, by omega, rfl, Lib.hid (by rw [Mat.clear_zero]; exact H8.out.1), Lib.hid (by rw [Mat.clear_zero]; exact H8.out.2.1), H8.out.2.2⟩
          case round =>
            obtain ⟨r, hr, rfl, RX, RY, hBr⟩ := hrel
            rename World => wr2
            clear H8
            by_cases hlr : r < n
            · have hlr' : (r : Int) < (n : Int) := by omega
              have gl := (Mat.clear_sh (c := c) (r := r) (g := gg) T2.out).get hlr
              rw [Mat.clear_at T2.out hlr] at gl
              obtain ⟨ra, rc, c1, hb⟩ := RX.out.at gl.1
              rw [gl.2] at c1 hb
              obtain ⟨rb, ro, rfl⟩ := hb.open1 (by omega)
              have c2 := hb.cellAt (bytes_get (show c < (x2.getD r []).length by omega))
              rw [show (x2.getD r []).getD c 0 = gg r from GG.out r] at c2
              have HRB := Lib.hid hb
              have GL := Lib.hid gl.2
              have GC := Lib.hid gl.2
              clear gl hb
              by_cases hskip : r = c ∨ gg r = 0
              · have HX3 := RX.out
                have HY3 := RY.out
                rw [← Mat.clear_same T2.out hlt hlr hskip] at HX3
                rw [← Mat.clear_same U2.out hlt hlr hskip] at HY3
                have HX4 := Lib.hid HX3
                have HY4 := Lib.hid HY3
                clear HX3 HY3
                rcases hskip with e | e
                · subst e
                  go_wp2_with fail
                  exact ⟨⟨r + 1, by omega, by go_num, HX4, HY4, hBr⟩, by simp [intOf]; omega⟩
                · by_cases hrc : r = c
                  · subst hrc
                    go_wp2_with fail
                    exact ⟨⟨r + 1, by omega, by go_num, HX4, HY4, hBr⟩, by simp [intOf]; omega⟩
                  · have q1 : ((r : Int) != (c : Int)) = true := (bne_len r c).trans (decide_eq_true hrc)
                    have q2 : (((gg r).toNat : Int) != 0) = false := by rw [e]; rfl
                    clear e hrc
                    go_wp2_with fail
                    exact ⟨⟨r + 1, by omega, by go_num, HX4, HY4, hBr⟩, by simp [intOf]; omega⟩
              · have hrc : r ≠ c := fun e => hskip (.inl e)
                have q1 : ((r : Int) != (c : Int)) = true := (bne_len r c).trans (decide_eq_true hrc)
                have q2 : (((gg r).toNat : Int) != 0) = true := by
                  have : (gg r).toNat ≠ 0 := fun h => hskip (.inr (UInt8.toNat_inj.1 h))
                  simp; omega
                have HRC := Lib.hid hrc
                have gc := (Mat.clear_sh (c := c) (r := r) (g := gg) T2.out).get hlt
                rw [Mat.clear_piv T2.out hlt] at gc
                obtain ⟨pa, pc, d1, hbc⟩ := RX.out.at gc.1
                rw [gc.2] at d1 hbc
                have yr := (Mat.clear_sh (c := c) (r := r) (g := gg) U2.out).get hlr
                rw [Mat.clear_at U2.out hlr] at yr
                obtain ⟨ya, yc, e1, hby⟩ := RY.out.at yr.1
                rw [yr.2] at e1 hby
                have zr := (Mat.clear_sh (c := c) (r := r) (g := gg) U2.out).get hlt
                rw [Mat.clear_piv U2.out hlt] at zr
                obtain ⟨za, zc, f1, hbz⟩ := RY.out.at zr.1
                rw [zr.2] at f1 hbz
                have L1 := Lib.hid (And.intro GL.out (And.intro gc.2 (And.intro yr.2 zr.2)))
                have HR1 := HRB
                have HR2 := Lib.hid hbc
                have HR3 := Lib.hid hby
                have HR4 := Lib.hid hbz
                have C1 := Lib.hid c1
                have D1 := Lib.hid d1
                have E1 := Lib.hid e1
                have F1 := Lib.hid f1
                have u1 := RX.out.unfrozen r
                have v1 := RY.out.unfrozen r
                have U1 := Lib.hid u1
                have V1 := Lib.hid v1
                have nX := Mat.clear_step (g := gg) T2.out hlt hlr hrc
                have nY := Mat.clear_step (g := gg) U2.out hlt hlr hrc
                have NX := Lib.hid nX
                have NY := Lib.hid nY
                clear hskip hrc gc yr zr hbc hby hbz d1 e1 f1 u1 v1 nX nY
                go_wp2_with fail
                have mgg : ∀ (w' : World) (v1 v2 : Value) (s1 s2 : List UInt8), s1.length = n → s2.length = n → Ext wr2 w' → Bytes w' v1 s1 → Bytes w' v2 s2 → Calls Tryz.prog 169 #[.pointer (some ⟨t, 0, none⟩), v1, v2, .int .u8 (gg r).toNat] w' fun e w5 =>
                    ∃ ua uc, e = .returned (.slice ua n uc) ∧ Hid (Bytes w5 (.slice ua n uc) (mad s1 s2 (gg r))) ∧ Ext w' w5 ∧ w5.cell? ⟨gx, r, none⟩ = some (.slice (some ⟨rb, ro, none⟩) n rc) ∧ w5.cell? ⟨gy, r, none⟩ = some (.slice ya n yc) ∧ w5.frozen? ⟨gx, r, none⟩ = false ∧ w5.frozen? ⟨gy, r, none⟩ = false := by
                  intro w' v1 v2 s1 s2 hs1 hs2 e hv1 hv2
                  refine (muladd_any t s1 s2 (gg r) _ _ _ (HT.out.ext (Below.trans hBr (Below.mono e hBr.size))) (by omega) (by omega) hv1 hv2).mono ?_
                  rintro e' w5 ⟨u, rfl, hU, hx5⟩
                  have hul : (mad s1 s2 (gg r)).length = n := by rw [mad_length]; exact hs1
                  obtain ⟨ua, uc, rfl⟩ := Bytes.slice hU.cells
                  rw [hul]
                  have hx6 := Ext.trans e hx5
                  exact ⟨ua, uc, rfl, Lib.hid (by have := hU.cells; rw [hul] at this; exact this), hx5, Ext.cell hx6 C1.out, Ext.cell hx6 E1.out, Ext.unfrozen hx6 C1.out U1.out, Ext.unfrozen hx6 E1.out V1.out⟩
                have mg := Lib.hid mgg
                clear mgg
                have hSx : ∀ w', Ext wr2 w' → (fun w' : World => w'.cell? ⟨gx, r, none⟩ = some (.slice (some ⟨rb, ro, none⟩) n rc) ∧ w'.cell? ⟨gx, c, none⟩ = some (.slice pa n pc) ∧ w'.cell? ⟨gy, r, none⟩ = some (.slice ya n yc) ∧ w'.cell? ⟨gy, c, none⟩ = some (.slice za n zc)) w' := fun w' e => ⟨Ext.cell e C1.out, Ext.cell e D1.out, Ext.cell e E1.out, Ext.cell e F1.out⟩
                have hlS : ∀ wl : World, (fun w' : World => w'.cell? ⟨gx, r, none⟩ = some (.slice (some ⟨rb, ro, none⟩) n rc) ∧ w'.cell? ⟨gx, c, none⟩ = some (.slice pa n pc) ∧ w'.cell? ⟨gy, r, none⟩ = some (.slice ya n yc) ∧ w'.cell? ⟨gy, c, none⟩ = some (.slice za n zc)) wl → wl.cell? ⟨gx, r, none⟩ = some (.slice (some ⟨rb, ro, none⟩) n rc) ∧ wl.cell? ⟨gx, c, none⟩ = some (.slice pa n pc) ∧ wl.cell? ⟨gy, r, none⟩ = some (.slice ya n yc) ∧ wl.cell? ⟨gy, c, none⟩ = some (.slice za n zc) := fun wl h => h
                have hS := hSx wr2.drew (Ext.of_drawn _ 1)
                clear c1 c2
                refine wp_cut [86, 87, 88, 89, 90, 91, 92, 93, 94, 95, 96, 97, 98, 99, 100, 101, 102, 103, 104, 105, 106, 107, 108, 109, 110, 111, 112, 113] (fun w8 => MR w8 w3.heap.size gx ((Mat.clear x2 c gg r).set r (mad (x2.getD r []) (x2.getD c []) (gg r))) ∧ MR w8 w3.heap.size gy ((Mat.clear y2 c gg r).set r (mad (y2.getD r []) (y2.getD c []) (gg r))) ∧ Below w3.heap.size w3 w8) ?_ ?_
                · refine wp_region_U (fun w' : World => w'.cell? ⟨gx, r, none⟩ = some (.slice (some ⟨rb, ro, none⟩) n rc) ∧ w'.cell? ⟨gx, c, none⟩ = some (.slice pa n pc) ∧ w'.cell? ⟨gy, r, none⟩ = some (.slice ya n yc) ∧ w'.cell? ⟨gy, c, none⟩ = some (.slice za n zc)) 27 (by kernel_rfl) ?_
                  refine wpU_pure (i := 0) (v := ?_) rfl (by kernel_rfl) (by kernel_rfl) (by kernel_rfl) (by decide) (fun _ _ _ h => h) (fun _ => hS) (Or.inl ⟨by rfl, fun _ _ => ?_⟩) ?_
                  rotate_left
                  · go_simp
                    try with_reducible rfl
                  try simp only [Act.put]
                  refine wpU_pure (i := 1) (v := ?_) rfl (by kernel_rfl) (by kernel_rfl) (by kernel_rfl) (by decide) (fun _ _ _ h => h) (fun _ => hS) (Or.inl ⟨by rfl, fun _ _ => ?_⟩) ?_
                  rotate_left
                  · go_simp
                    try with_reducible rfl
                  try simp only [Act.put]
                  refine wpU_pure (i := 2) (v := ?_) rfl (by kernel_rfl) (by kernel_rfl) (by kernel_rfl) (by decide) (fun _ _ _ h => h) (fun _ => hS) (Or.inl ⟨by rfl, fun _ _ => ?_⟩) ?_
                  rotate_left
                  · go_simp
                    try with_reducible rfl
                  try simp only [Act.put]
                  refine wpU_pure (i := 3) (v := ?_) rfl (by kernel_rfl) (by kernel_rfl) (by kernel_rfl) (by decide) (fun _ _ _ h => h) (fun _ => hS) (Or.inl ⟨by rfl, fun _ _ => ?_⟩) ?_
                  rotate_left
                  · go_simp
                    try with_reducible rfl
                  try simp only [Act.put]
                  refine wpU_pure (i := 4) (v := ?_) rfl (by kernel_rfl) (by kernel_rfl) (by kernel_rfl) (by decide) (fun _ _ _ h => h) (fun _ => hS) (Or.inl ⟨by rfl, fun _ _ => ?_⟩) ?_
                  rotate_left
                  · go_simp
                    try with_reducible rfl
                  try simp only [Act.put]
                  refine wpU_pure (i := 5) (v := ?_) rfl (by kernel_rfl) (by kernel_rfl) (by kernel_rfl) (by decide) (fun _ _ _ h => h) (fun _ => hS) (Or.inl ⟨by rfl, fun _ _ => ?_⟩) ?_
                  rotate_left
                  · go_simp
                    try with_reducible rfl
                  try simp only [Act.put]
                  refine wpU_pure (i := 6) (v := ?_) rfl (by kernel_rfl) (by kernel_rfl) (by kernel_rfl) (by decide) (fun _ _ _ h => h) (fun _ => hS) (Or.inl ⟨by rfl, fun _ _ => ?_⟩) ?_
                  rotate_left
                  · go_simp
                    try with_reducible rfl
                  try simp only [Act.put]
                  refine wpU_pure (i := 7) (v := ?_) rfl (by kernel_rfl) (by kernel_rfl) (by kernel_rfl) (by decide) (fun _ _ _ h => h) (fun _ => hS) (Or.inl ⟨by rfl, fun _ _ => ?_⟩) ?_
                  rotate_left
                  · go_simp
                    try with_reducible rfl
                  try simp only [Act.put]
                  refine wpU_load (i := 8) (v := ?_) rfl (by kernel_rfl) (by kernel_rfl) (by kernel_rfl) (by decide) (by kernel_rfl) (by kernel_rfl) (fun _ _ _ h => h) hS (Or.inl ⟨by rfl, fun wl hl => ?_⟩) ?_
                  rotate_left
                  · have hl2 := hlS wl hl
                    obtain ⟨l1, l2, l3, l4⟩ := hl2
                    go_simp
                    try with_reducible rfl
                  try simp only [Act.put]
                  refine wpU_pure (i := 9) (v := ?_) rfl (by kernel_rfl) (by kernel_rfl) (by kernel_rfl) (by decide) (fun _ _ _ h => h) (fun _ => hS) (Or.inl ⟨by rfl, fun _ _ => ?_⟩) ?_
                  rotate_left
                  · go_simp
                    try with_reducible rfl
                  try simp only [Act.put]
                  refine wpU_pure (i := 10) (v := ?_) rfl (by kernel_rfl) (by kernel_rfl) (by kernel_rfl) (by decide) (fun _ _ _ h => h) (fun _ => hS) (Or.inl ⟨by rfl, fun _ _ => ?_⟩) ?_
                  rotate_left
                  · go_simp
                    try with_reducible rfl
                  try simp only [Act.put]
                  refine wpU_pure (i := 11) (v := ?_) rfl (by kernel_rfl) (by kernel_rfl) (by kernel_rfl) (by decide) (fun _ _ _ h => h) (fun _ => hS) (Or.inl ⟨by rfl, fun _ _ => ?_⟩) ?_
                  rotate_left
                  · go_simp
                    try with_reducible rfl
                  try simp only [Act.put]
                  refine wpU_load (i := 12) (v := ?_) rfl (by kernel_rfl) (by kernel_rfl) (by kernel_rfl) (by decide) (by kernel_rfl) (by kernel_rfl) (fun _ _ _ h => h) hS (Or.inl ⟨by rfl, fun wl hl => ?_⟩) ?_
                  rotate_left
                  · have hl2 := hlS wl hl
                    obtain ⟨l1, l2, l3, l4⟩ := hl2
                    go_simp
                    try with_reducible rfl
                  try simp only [Act.put]
                  refine wpU_pure (i := 13) (v := ?_) rfl (by kernel_rfl) (by kernel_rfl) (by kernel_rfl) (by decide) (fun _ _ _ h => h) (fun _ => hS) (Or.inl ⟨by rfl, fun _ _ => ?_⟩) ?_
                  rotate_left
                  · go_simp
                    try with_reducible rfl
                  try simp only [Act.put]
                  refine wpU_pure (i := 15) (v := ?_) rfl (by kernel_rfl) (by kernel_rfl) (by kernel_rfl) (by decide) (fun _ _ _ h => h) (fun _ => hS) (Or.inl ⟨by rfl, fun _ _ => ?_⟩) ?_
                  rotate_left
                  · go_simp
                    try with_reducible rfl
                  try simp only [Act.put]
                  refine wpU_pure (i := 16) (v := ?_) rfl (by kernel_rfl) (by kernel_rfl) (by kernel_rfl) (by decide) (fun _ _ _ h => h) (fun _ => hS) (Or.inl ⟨by rfl, fun _ _ => ?_⟩) ?_
                  rotate_left
                  · go_simp
                    try with_reducible rfl
                  try simp only [Act.put]
                  refine wpU_pure (i := 17) (v := ?_) rfl (by kernel_rfl) (by kernel_rfl) (by kernel_rfl) (by decide) (fun _ _ _ h => h) (fun _ => hS) (Or.inl ⟨by rfl, fun _ _ => ?_⟩) ?_
                  rotate_left
                  · go_simp
                    try with_reducible rfl
                  try simp only [Act.put]
                  refine wpU_pure (i := 18) (v := ?_) rfl (by kernel_rfl) (by kernel_rfl) (by kernel_rfl) (by decide) (fun _ _ _ h => h) (fun _ => hS) (Or.inl ⟨by rfl, fun _ _ => ?_⟩) ?_
                  rotate_left
                  · go_simp
                    try with_reducible rfl
                  try simp only [Act.put]
                  refine wpU_load (i := 19) (v := ?_) rfl (by kernel_rfl) (by kernel_rfl) (by kernel_rfl) (by decide) (by kernel_rfl) (by kernel_rfl) (fun _ _ _ h => h) hS (Or.inl ⟨by rfl, fun wl hl => ?_⟩) ?_
                  rotate_left
                  · have hl2 := hlS wl hl
                    obtain ⟨l1, l2, l3, l4⟩ := hl2
                    go_simp
                    try with_reducible rfl
                  try simp only [Act.put]
                  refine wpU_pure (i := 20) (v := ?_) rfl (by kernel_rfl) (by kernel_rfl) (by kernel_rfl) (by decide) (fun _ _ _ h => h) (fun _ => hS) (Or.inl ⟨by rfl, fun _ _ => ?_⟩) ?_
                  rotate_left
                  · go_simp
                    try with_reducible rfl
                  try simp only [Act.put]
                  refine wpU_pure (i := 21) (v := ?_) rfl (by kernel_rfl) (by kernel_rfl) (by kernel_rfl) (by decide) (fun _ _ _ h => h) (fun _ => hS) (Or.inl ⟨by rfl, fun _ _ => ?_⟩) ?_
                  rotate_left
                  · go_simp
                    try with_reducible rfl
                  try simp only [Act.put]
                  refine wpU_pure (i := 22) (v := ?_) rfl (by kernel_rfl) (by kernel_rfl) (by kernel_rfl) (by decide) (fun _ _ _ h => h) (fun _ => hS) (Or.inl ⟨by rfl, fun _ _ => ?_⟩) ?_
                  rotate_left
                  · go_simp
                    try with_reducible rfl
                  try simp only [Act.put]
                  refine wpU_load (i := 23) (v := ?_) rfl (by kernel_rfl) (by kernel_rfl) (by kernel_rfl) (by decide) (by kernel_rfl) (by kernel_rfl) (fun _ _ _ h => h) hS (Or.inl ⟨by rfl, fun wl hl => ?_⟩) ?_
                  rotate_left
                  · have hl2 := hlS wl hl
                    obtain ⟨l1, l2, l3, l4⟩ := hl2
                    go_simp
                    try with_reducible rfl
                  try simp only [Act.put]
                  refine wpU_pure (i := 24) (v := ?_) rfl (by kernel_rfl) (by kernel_rfl) (by kernel_rfl) (by decide) (fun _ _ _ h => h) (fun _ => hS) (Or.inl ⟨by rfl, fun _ _ => ?_⟩) ?_
                  rotate_left
                  · go_simp
                    try with_reducible rfl
                  try simp only [Act.put]
                  refine wpU_all [14] (by kernel_rfl) (by simp) ?_
                  refine ReadyU.cons rfl (fun K hK => ?_) (ReadyU.nil)
                  go_simp
                  refine (mg.out _ _ _ (x2.getD r []) (x2.getD c []) L1.out.1 L1.out.2.1 (by repeat (first | exact Ext.of_drawn _ 1 | exact Ext.refl _ | assumption | refine Ext.trans ?_ hx5)) (HR1.out.ext (by repeat (first | exact Ext.of_drawn _ 1 | exact Ext.refl _ | assumption | refine Ext.trans ?_ hx5))) (HR2.out.ext (by repeat (first | exact Ext.of_drawn _ 1 | exact Ext.refl _ | assumption | refine Ext.trans ?_ hx5)))).mono ?_
                  rintro e w5 ⟨ua, uc, rfl, hu, hx5, k1, k2, k3, k4⟩
                  go_simp
                  have e65 : Ext wr2 w5 := Ext.trans (Ext.of_drawn _ 1) hx5
                  refine hK.out _ _ (fun _ => hSx _ e65) ?_
                  clear hK K
                  refine wpU_all [25] (by kernel_rfl) (by simp) ?_
                  refine ReadyU.cons rfl (fun K hK => ?_) (ReadyU.nil)
                  go_simp
                  refine (mg.out _ _ _ (y2.getD r []) (y2.getD c []) L1.out.2.2.1 L1.out.2.2.2 e65 (HR3.out.ext e65) (HR4.out.ext e65)).mono ?_
                  rintro e w7 ⟨va, vc, rfl, hv, hx7, k6, k7, k8, k9⟩
                  go_simp
                  have e67 : Ext wr2 w7 := Ext.trans e65 hx7
                  refine hK.out _ _ (fun _ => hSx _ e67) ?_
                  clear hK K
                  refine wpU_all [26] (by kernel_rfl) (by simp) ?_
                  refine ReadyU.cons rfl (fun K hK => ?_) (ReadyU.nil)
                  go_simp
                  refine hK.out _ _ (fun _ => hSx _ e67) ?_
                  clear hK K
                  refine wpU_all [27] (by kernel_rfl) (by simp) ?_
                  refine ReadyU.cons rfl (fun K hK => ?_) (ReadyU.nil)
                  go_simp
                  refine hK.out _ _ (fun h => Bool.noConfusion (show true = false from h)) ?_
                  clear hK K
                  refine wpU_pure (i := 28) (v := ?_) rfl (by kernel_rfl) (by kernel_rfl) (by kernel_rfl) (by decide) (fun _ _ _ h => h) (fun h => Bool.noConfusion (show true = false from h)) (Or.inl ⟨by rfl, fun _ _ => ?_⟩) ?_
                  rotate_left
                  · go_simp
                    try with_reducible rfl
                  try simp only [Act.put]
                  refine wpU_all [29] (by kernel_rfl) (by simp) ?_
                  refine ReadyU.cons rfl (fun K hK => ?_) (ReadyU.nil)
                  go_simp
                  refine hK.out _ _ (fun h => Bool.noConfusion (show true = false from h)) ?_
                  clear hK K
                  refine wpU_done (by kernel_rfl) ?_ _
                  exact cut_end (pair_rows (RX.out.ext e67) (RY.out.ext e67) hne (hu.out.ext hx7) hv.out r (Below.trans hBr (Below.mono e67 hBr.size))) (by kernel_rfl)
                · intro us w9 h9
                  rw [← NX.out, ← NY.out] at h9
                  have H9 := Lib.hid h9
                  clear h9 hS hSx hlS mg
                  simp only [setAll, List.foldl_cons, List.foldl_nil, List.set_cons_zero, List.set_cons_succ]
                  go_wp2_with fail
                  exact ⟨⟨r + 1, by omega, by go_num, Lib.hid H9.out.1, Lib.hid H9.out.2.1, H9.out.2.2⟩, by simp [intOf]; omega⟩
            · obtain rfl : r = n := by omega
              clear hlr
              go_wp2_with fail
              exact ⟨⟨c + 1, _, _, by omega, by go_num, Lib.hid (Mat.clear_sh T2.out), Lib.hid (Mat.clear_sh U2.out), RX, RY, H4, hBr⟩, by simp [intOf]; omega⟩
    · obtain rfl : c = n := by omega
      have HJ := Lib.hid (show Mat.minv c a = some y by rw [hJ.out, Nat.sub_self]; rfl)
      have hR3 := Lib.hid (RY.out.mono X3.out.size)
      have HF := Lib.hid (Ext.trans X3.out hBr)
      clear hlt hJ RX RY hBr
      go_wp2_with fail
      go_ret2
      exact .inr ⟨y, gy, HJ.out, rfl, hR3.out, HF.out⟩
end Go.Proofs.YthkbbcdnmdjhdaaGreat
/-! XMxJ: matrix.Invert of what is not square; matrix.Systematic; matrix.Same. -/
namespace Go.Proofs.YthkbbcdnmdjhdaaGreat
open Go.RowKit Gf
set_option maxRecDepth 100000
set_option maxHeartbeats 4000000
attribute [local go_sem] min_int2 max_int2

theorem invert_no (v : Value) (a : Mat.M) (h : ¬ ∃ n, 1 ≤ n ∧ n ≤ 255 ∧ Mat.Sh a n n) (w : World) (hA : BRows w v a) :
    Calls Tryz.prog 147 #[v] w fun e w' => e = .returned (.tuple #[.slice none 0 0, .bool false]) ∧ Ext w w' := by
  obtain ⟨aa, ac, rfl⟩ := hA.form
  have HA := Lib.hid hA
  have sq : Calls Tryz.prog 164 #[.slice aa a.length ac] w fun e w' => e = .returned (.bool false) ∧ Ext w w' := by
    by_cases hg : Mat.Good a
    · obtain ⟨n, m, h1, h2, h3, h4, h5⟩ := hg
      have hnm : n ≠ m := fun e => h ⟨n, h1, h2, e ▸ h5⟩
      have := square_good _ a n m h1 h2 h3 h4 h5 w hA
      rw [decide_eq_false hnm] at this
      exact this
    · exact square_no _ a hg w hA
  have SQ := Lib.hid sq
  clear sq hA h
  go_enter Tryz.func147, Tryz.ntmps147
  go_wp2_with fail
  refine SQ.out.mono ?_; rintro e w1 ⟨rfl, x1⟩
  have X1 := Lib.hid x1
  clear x1
  go_wp2_with fail
  go_ret2
  exact ⟨rfl, X1.out⟩

theorem BRows.take {w : World} {a : Option Addr} {n cap : Nat} {ls : List (List UInt8)} (h : BRows w (.slice a n cap) ls) (m : Nat) (hm : m ≤ n) : BRows w (.slice a m cap) (ls.take m) := by
  obtain ⟨vs, h1, h2, h3⟩ := h
  refine ⟨vs.take m, h1.take m hm, by simp [h2], fun i v l hv hl => ?_⟩
  rw [List.getElem?_take] at hv hl
  split at hv
  · rename_i hi
    rw [if_pos hi] at hl
    exact h3 i v l hv hl
  · cases hv

theorem sys_any (k m : Nat) (h1 : 1 ≤ k) (h2 : 1 ≤ m) (h3 : k + m ≤ 255) (w : World) :
    Calls Tryz.prog 123 #[.int .i64 k, .int .i64 m] w fun e w' => ∃ x g, Mat.sys k m = some x ∧ e = .returned (.tuple #[.slice (some ⟨g, 0, none⟩) (k + m : Nat) (k + m : Nat), .bool true]) ∧ MR w' w.heap.size g x ∧ Ext w w' := by
  obtain ⟨top, ht, hs⟩ := Mat.sys_some k m (by omega)
  obtain ⟨q, hq⟩ : ∃ q, k + m = q := ⟨_, rfl⟩
  have hqi : (k : Int) + (m : Int) = (q : Int) := by omega
  have HS := Lib.hid hs
  have HT := Lib.hid ht
  rw [hq]
  have HQ := Lib.hid hq
  have b1 : k < q := by omega
  have b2 : q ≤ 255 := by omega
  have s1 := Mat.vand_take k m k
  rw [hq] at s1
  have S1 := Lib.hid s1
  clear hs ht hq s1
  go_enter Tryz.func123, Tryz.ntmps123
  go_wp2_with fail
  refine (vand_any q k (by omega) b2 h1 (by omega) _).mono ?_; rintro e w1 ⟨g, vs, rfl, hO, x1⟩
  have HO := Lib.hid hO.mr
  have X1 := Lib.hid x1
  clear hO x1
  go_wp2_with fail
  have hB1 := (HO.out.brows (by rw [(Mat.vand_sh q k).1])).take k (by omega)
  rw [S1.out] at hB1
  have HB1 := Lib.hid hB1
  clear hB1
  refine (invert_any _ (Mat.vand k k) k ⟨h1, by omega⟩ (Mat.vand_sh k k) _ HB1.out).mono ?_
  rintro e w2 (⟨hn, -, -⟩ | ⟨z, gz, hz, rfl, hZ, x2⟩)
  · rw [HT.out] at hn; cases hn
  · rw [HT.out] at hz
    cases hz
    have HZ := Lib.hid hZ
    have X2 := Lib.hid x2
    clear hZ x2
    go_wp2_with fail
    have zsh := (Mat.minv_spec (Mat.vand_sh k k) HT.out).1
    refine (mul_any _ _ (Mat.vand q k) top q k k ⟨by omega, b2⟩ ⟨h1, by omega⟩ ⟨h1, by omega⟩ (Mat.vand_sh q k) zsh _ ((HO.out.ext X2.out).brows (by rw [(Mat.vand_sh q k).1])) (HZ.out.brows (by rw [zsh.1]))).mono ?_
    rintro e w3 ⟨g3, rfl, hM, x3⟩
    have HM := Lib.hid (hM.mono (Nat.le_trans X1.out.size X2.out.size))
    have X3 := Lib.hid (Ext.trans (Ext.trans X1.out X2.out) x3)
    have HS2 := Lib.hid (HQ.out ▸ HS.out)
    clear hM x3 zsh
    go_wp2_with fail
    go_ret2
    exact ⟨_, g3, HS2.out, rfl, HM.out, X3.out⟩
theorem sys_no (k m : Int) (h : ¬ (1 ≤ k ∧ 1 ≤ m ∧ k + m ≤ 255)) (w : World) :
    Calls Tryz.prog 123 #[.int .i64 k, .int .i64 m] w fun e w' => e = .returned (.tuple #[.slice none 0 0, .bool false]) ∧ w = w' := by
  have key : k < 1 ∨ (1 ≤ k ∧ m < 1) ∨ (1 ≤ k ∧ 1 ≤ m ∧ 255 < k) ∨ (1 ≤ k ∧ 1 ≤ m ∧ k ≤ 255 ∧ 255 - k < m) := by omega
  clear h
  rcases key with h1 | ⟨h1, h2⟩ | ⟨h1, h2, h3⟩ | ⟨h1, h2, h3, h4⟩
  all_goals
    go_enter Tryz.func123, Tryz.ntmps123
    go_wp2_with fail
    go_ret2
    exact ⟨rfl, rfl⟩
end Go.Proofs.YthkbbcdnmdjhdaaGreat
