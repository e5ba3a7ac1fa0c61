/-
  The reference's Invert.
-/
import Derived.Test.YtdmdcgcmappliaaRefC
import Derived.Test.YtdmdcgcmappliaaMxI
namespace Go.Proofs.Ytdmdcgcmappliaa
open Go.RowKit Gf
set_option maxRecDepth 100000
set_option maxHeartbeats 4000000
attribute [local go_sem] min_int2 max_int2

theorem RA.drew {w : World} {B T : Nat} {v : Value} {ls : List (List UInt8)} (h : RA w B T v ls) : RA w.drew B T v ls := h.ext (Ext.of_drawn w 1)
theorem RA.drewN {w : World} {B T : Nat} {v : Value} {ls : List (List UInt8)} (h : RA w B T v ls) (n : Nat) : RA (w.drewN n) B T v ls := h.ext (Ext.of_drawn w n)

/-- Both halves of what is under way, in two stretches of memory. -/
structure XY (w0 w : World) (B1 B2 B3 n gx gy cx cy : Nat) (x y : Mat.M) : Prop where
  rx : RA w B1 B2 (.slice (some ⟨gx, 0, none⟩) n cx) x
  ry : RA w B2 B3 (.slice (some ⟨gy, 0, none⟩) n cy) y
  b : Below B1 w0 w
  le : B1 ≤ B2
  sx : Mat.Sh x n n
  sy : Mat.Sh y n n
  tp : B3 ≤ w.heap.size
section
variable {w0 w : World} {B1 B2 B3 n gx gy cx cy : Nat} {x y : Mat.M}
theorem setCell_size (w : World) (p : Addr) (u : Value) : (w.setCell p u).heap.size = w.heap.size := by unfold World.setCell; simp
theorem XY.drewN (h : XY w0 w B1 B2 B3 n gx gy cx cy x y) (k : Nat) : XY w0 (w.drewN k) B1 B2 B3 n gx gy cx cy x y :=
  ⟨h.rx.drewN k, h.ry.drewN k, ⟨h.b.os, h.b.tape, h.b.output, h.b.size, h.b.block⟩, h.le, h.sx, h.sy, h.tp⟩
theorem XY.drew (h : XY w0 w B1 B2 B3 n gx gy cx cy x y) : XY w0 w.drew B1 B2 B3 n gx gy cx cy x y := h.drewN 1
/-- The entry at r, k of the first: its cells, and what writing it keeps. -/
theorem XY.atX (h : XY w0 w B1 B2 B3 n gx gy cx cy x y) {r k : Nat} (hr : r < n) (hk : k < n) : ∃ b rc, B1 ≤ b ∧ b < B2 ∧ w.cell? ⟨gx, r, none⟩ = some (.slice (some ⟨b, 0, none⟩) n rc) ∧ w.cell? ⟨b, k, none⟩ = some (bv (Mat.en x r k)) ∧ w.frozen? ⟨b, k, none⟩ = false ∧
    ∀ (z : UInt8), XY w0 (w.setCell ⟨b, k, none⟩ (bv z)) B1 B2 B3 n gx gy cx cy (x.set r ((x.getD r []).set k z)) y := by
  obtain ⟨g1, g2⟩ := h.sx.get hr
  obtain ⟨b, rc, c1, l1, l2, l3, c2, u, st⟩ := h.rx.row g1 (by omega)
  rw [g2] at c1
  refine ⟨b, rc, l1, l2, c1, c2 k _ ?_, u k, fun z => ⟨st k z, h.ry.off (.inl l2) _, Below.setCell h.b l1 _, h.le, h.sx.set (by rw [List.length_set]; exact g2), h.sy, by rw [setCell_size]; exact h.tp⟩⟩
  unfold Mat.en
  rw [Mat.getD_lt (by omega : k < (x.getD r []).length)]
  exact List.getElem?_eq_getElem _
theorem XY.atY (h : XY w0 w B1 B2 B3 n gx gy cx cy x y) {r k : Nat} (hr : r < n) (hk : k < n) : ∃ b rc, B2 ≤ b ∧ w.cell? ⟨gy, r, none⟩ = some (.slice (some ⟨b, 0, none⟩) n rc) ∧ w.cell? ⟨b, k, none⟩ = some (bv (Mat.en y r k)) ∧ w.frozen? ⟨b, k, none⟩ = false ∧
    ∀ (z : UInt8), XY w0 (w.setCell ⟨b, k, none⟩ (bv z)) B1 B2 B3 n gx gy cx cy x (y.set r ((y.getD r []).set k z)) := by
  obtain ⟨g1, g2⟩ := h.sy.get hr
  obtain ⟨b, rc, c1, l1, l2, l3, c2, u, st⟩ := h.ry.row g1 (by omega)
  rw [g2] at c1
  have := h.le
  refine ⟨b, rc, l1, c1, c2 k _ ?_, u k, fun z => ⟨h.rx.off (.inr l1) _, st k z, Below.setCell h.b (by show B1 ≤ b; omega) _, h.le, h.sx, h.sy.set (by rw [List.length_set]; exact g2), by rw [setCell_size]; exact h.tp⟩⟩
  unfold Mat.en
  rw [Mat.getD_lt (by omega : k < (y.getD r []).length)]
  exact List.getElem?_eq_getElem _
theorem setCell_comm (w : World) {a b : Addr} (h : a.block ≠ b.block) (u v : Value) : (w.setCell a u).setCell b v = (w.setCell b v).setCell a u := by
  unfold World.setCell
  congr 1
  apply Array.ext (by simp)
  intro i h1 h2
  simp only [Array.getElem_modify]
  by_cases e : b.block = i
  · rw [if_pos e, if_neg (fun x => h (x.trans e.symm)), if_neg (fun x => h (x.trans e.symm)), if_pos e]
  · rw [if_neg e, if_neg e]
/-- The entries at r, k of both, written. -/
theorem XY.at2 (h : XY w0 w B1 B2 B3 n gx gy cx cy x y) {r k : Nat} (hr : r < n) (hk : k < n) : ∃ b rc b' rc', b ≠ b' ∧ b ≠ gy ∧ b' ≠ gx ∧ w.cell? ⟨gx, r, none⟩ = some (.slice (some ⟨b, 0, none⟩) n rc) ∧ w.cell? ⟨b, k, none⟩ = some (bv (Mat.en x r k)) ∧ w.frozen? ⟨b, k, none⟩ = false ∧
    w.cell? ⟨gy, r, none⟩ = some (.slice (some ⟨b', 0, none⟩) n rc') ∧ w.cell? ⟨b', k, none⟩ = some (bv (Mat.en y r k)) ∧ w.frozen? ⟨b', k, none⟩ = false ∧
    ∀ (z z' : UInt8), XY w0 ((w.setCell ⟨b, k, none⟩ (bv z)).setCell ⟨b', k, none⟩ (bv z')) B1 B2 B3 n gx gy cx cy (x.set r ((x.getD r []).set k z)) (y.set r ((y.getD r []).set k z')) := by
  obtain ⟨b, rc, l1, l2, c1, c2, u1, st1⟩ := h.atX hr hk
  obtain ⟨b', rc', l3, d1, d2, u2, st2⟩ := h.atY hr hk
  have hl := h.le
  have hlx := h.sx.1
  have hly := h.sy.1
  obtain ⟨g, c', e, m1, m2, -⟩ := h.rx.open1 (by omega)
  simp only [Value.slice.injEq, Option.some.injEq, Addr.mk.injEq, and_true] at e
  obtain ⟨rfl, -, -⟩ := e
  obtain ⟨g, c', e, m3, m4, -⟩ := h.ry.open1 (by omega)
  simp only [Value.slice.injEq, Option.some.injEq, Addr.mk.injEq, and_true] at e
  obtain ⟨rfl, -, -⟩ := e
  have hbb : b ≠ b' := by omega
  refine ⟨b, rc, b', rc', hbb, by omega, by omega, c1, c2, u1, d1, d2, u2, fun z z' => ?_⟩
  have s1 := st1 z
  have s2 := st2 z'
  refine ⟨s1.rx.off (.inr l3) _, ?_, Below.setCell s1.b (by show B1 ≤ b'; omega) _, h.le, s1.sx, s2.sy, by rw [setCell_size, setCell_size]; exact h.tp⟩
  rw [setCell_comm w (a := ⟨b, k, none⟩) (b := ⟨b', k, none⟩) hbb]
  exact s2.ry.off (.inl l2) _
/-- Two rows of each change their places. -/
theorem XY.swapX (h : XY w0 w B1 B2 B3 n gx gy cx cy x y) {c p : Nat} (hc : c < n) (hp : p < n) : ∃ ra rc rb rd, w.cell? ⟨gx, c, none⟩ = some (.slice ra n rc) ∧ w.cell? ⟨gx, p, none⟩ = some (.slice rb n rd) ∧ (∀ j, w.frozen? ⟨gx, j, none⟩ = false) ∧
    XY w0 ((w.setCell ⟨gx, c, none⟩ (.slice rb n rd)).setCell ⟨gx, p, none⟩ (.slice ra n rc)) B1 B2 B3 n gx gy cx cy (Mat.swap x c p) y := by
  obtain ⟨g1, g2⟩ := h.sx.get hc
  obtain ⟨g3, g4⟩ := h.sx.get hp
  obtain ⟨ra, rc, c1, -⟩ := h.rx.at g1
  obtain ⟨rb, rd, c2, -⟩ := h.rx.at g3
  rw [g2] at c1
  rw [g4] at c2
  have hl := h.sx.1
  obtain ⟨g, c', e, l1, l2, u⟩ := h.rx.open1 (by omega)
  simp only [Value.slice.injEq, Option.some.injEq, Addr.mk.injEq, and_true] at e
  obtain ⟨rfl, -, -⟩ := e
  exact ⟨_, _, _, _, c1, c2, u, h.rx.swap c1 c2 g1 g3, (h.ry.off (.inl l2) _).off (.inl l2) _, Below.setCell (Below.setCell h.b l1 _) l1 _, h.le, Mat.swap_sh h.sx hc hp, h.sy, by rw [setCell_size, setCell_size]; exact h.tp⟩
theorem XY.swapY (h : XY w0 w B1 B2 B3 n gx gy cx cy x y) {c p : Nat} (hc : c < n) (hp : p < n) : ∃ ra rc rb rd, w.cell? ⟨gy, c, none⟩ = some (.slice ra n rc) ∧ w.cell? ⟨gy, p, none⟩ = some (.slice rb n rd) ∧ (∀ j, w.frozen? ⟨gy, j, none⟩ = false) ∧
    XY w0 ((w.setCell ⟨gy, c, none⟩ (.slice rb n rd)).setCell ⟨gy, p, none⟩ (.slice ra n rc)) B1 B2 B3 n gx gy cx cy x (Mat.swap y c p) := by
  obtain ⟨g1, g2⟩ := h.sy.get hc
  obtain ⟨g3, g4⟩ := h.sy.get hp
  obtain ⟨ra, rc, c1, -⟩ := h.ry.at g1
  obtain ⟨rb, rd, c2, -⟩ := h.ry.at g3
  rw [g2] at c1
  rw [g4] at c2
  have hl := h.sy.1
  obtain ⟨g, c', e, l1, l2, u⟩ := h.ry.open1 (by omega)
  simp only [Value.slice.injEq, Option.some.injEq, Addr.mk.injEq, and_true] at e
  obtain ⟨rfl, -, -⟩ := e
  have := h.le
  exact ⟨_, _, _, _, c1, c2, u, (h.rx.off (.inr l1) _).off (.inr l1) _, h.ry.swap c1 c2 g1 g3, Below.setCell (Below.setCell h.b (by show B1 ≤ gy; omega) _) (by show B1 ≤ gy; omega) _, h.le, h.sx, Mat.swap_sh h.sy hc hp, by rw [setCell_size, setCell_size]; exact h.tp⟩
end

theorem set_row_set (x : Mat.M) (n c k : Nat) (hx : Mat.Sh x n n) (hc : c < n) (l : List UInt8) (z : UInt8) : (x.set c l).set c (((x.set c l).getD c []).set k z) = x.set c (l.set k z) := by
  rw [Mat.set_getD _ _ _ _ (by rw [hx.1]; exact hc), if_pos rfl, List.set_set]
theorem rinvert_any (v : Value) (a : Mat.M) (n : Nat) (h1 : 1 ≤ n ∧ n ≤ 255) (ha : Mat.Sh a n n) (w : World) (hA : BRows w v a) :
    Calls Try.prog 56 #[v] w fun e w' => (Mat.minv n a = none ∧ e = .returned (.tuple #[.slice none 0 0, .bool false]) ∧ Ext w w') ∨ (∃ z u, Mat.minv n a = some z ∧ e = .returned (.tuple #[u, .bool true]) ∧ RA w' w.heap.size w'.heap.size u z ∧ Ext w w') := by
  obtain ⟨aa, ac, rfl⟩ := hA.form
  obtain ⟨b0, b1⟩ := h1
  have HSA := Lib.hid ha
  rw [ha.1] at hA
  rw [ha.1]
  have HA := Lib.hid hA
  clear hA ha
  go_enter Try.func56, Try.ntmps56
  go_wp2_with fail
  refine (rsquare_any _ a true ⟨fun _ => ⟨n, b0, b1, HSA.out⟩, fun _ => rfl⟩ _ HA.out).mono ?_; rintro e w1 ⟨rfl, x1⟩
  have X1 := Lib.hid x1
  clear x1
  go_wp2_with fail
  refine (rcopyA_any _ a (by rw [HSA.out.1]; omega) (fun r hr => by rw [HSA.out.2 r hr]; omega) _ (HA.out.ext X1.out)).mono ?_; rintro e w2 ⟨u, rfl, hX, x2⟩
  obtain ⟨gx, cx, rfl, -⟩ := hX.open1 (by rw [HSA.out.1]; omega)
  rw [HSA.out.1] at hX ⊢
  have HX := Lib.hid hX
  have X2 := Lib.hid x2
  clear x2 hX
  go_wp2_with fail
  refine (runitA_any n b0 b1 _).mono ?_; rintro e w3 ⟨u, rfl, hY, x3⟩
  obtain ⟨gy, cy, rfl, -⟩ := hY.open1 (by rw [(Mat.unit_sh n).1]; omega)
  rw [(Mat.unit_sh n).1] at hY ⊢
  have HXY : Hid (XY w1 w3 w1.heap.size w2.heap.size w3.heap.size n gx gy cx cy a (Mat.unit n)) := Lib.hid ⟨HX.out.ext x3, hY, Ext.trans X2.out x3, X2.out.size, HSA.out, Mat.unit_sh n, Nat.le_refl _⟩
  obtain ⟨B1, hB1⟩ : ∃ B1, w1.heap.size = B1 := ⟨_, rfl⟩
  obtain ⟨B2, hB2⟩ : ∃ B2, w2.heap.size = B2 := ⟨_, rfl⟩
  obtain ⟨B3, hB3⟩ : ∃ B3, w3.heap.size = B3 := ⟨_, rfl⟩
  rw [hB1, hB2, hB3] at HXY
  have HB := Lib.hid (And.intro hB1 (And.intro hB2 hB3))
  clear hY x3 hB1 hB2 hB3 HX
  go_wp2_with fail
  go_loopw [7] (fun v7 wr => ∃ (c : Nat) (x y : Mat.M), c ≤ n ∧ v7 = .int .i64 (c : Nat) ∧ Hid (XY w1 wr B1 B2 B3 n gx gy cx cy x y) ∧ Hid (Mat.minv n a = Mat.gj n (n - c) c x y)) (fun v7 _ => (n - intOf v7).toNat)
  case atStart => exact ⟨0, a, Mat.unit n, by omega, rfl, HXY, Lib.hid rfl⟩
  case round =>
    obtain ⟨c, x, y, hc, rfl, HR, hJ⟩ := hrel
    by_cases hlt : c < n
    · have hlt' : (c : Int) < (n : Int) := by omega
      go_wp2_with fail
      go_loop [8] (fun v8 => ∃ p : Nat, c ≤ p ∧ p ≤ n ∧ v8 = .int .i64 (p : Nat) ∧ Hid (Mat.pv x n c = Mat.pvf x c (n - p) p)) (fun v8 => (n - intOf v8).toNat)
      case atStart => exact ⟨c, by omega, by omega, rfl, Lib.hid rfl⟩
      case round =>
        obtain ⟨p, hcp, hp, rfl, hJp⟩ := hrel
        by_cases hltp : p < n
        · have hltp' : (p : Int) < (n : Int) := by omega
          obtain ⟨b, rc, -, -, c1, c2, -, -⟩ := HR.out.atX hltp hlt
          obtain ⟨z, hz⟩ : ∃ z, Mat.en x p c = z := ⟨_, rfl⟩
          rw [hz] at c2
          have HZ := Lib.hid hz
          clear hz
          by_cases h0 : z = 0
          · have h0' : ((z.toNat : Int) == 0) = true := by rw [h0]; rfl
            have H0 := Lib.hid h0
            clear h0
            go_wp2_with fail
            refine ⟨⟨p + 1, by omega, by omega, by go_num, Lib.hid ?_⟩, by simp [intOf]; omega⟩
            rw [hJp.out, show n - p = (n - (p + 1)) + 1 by omega]
            show (if Mat.en x p c = 0 then _ else _) = _
            rw [HZ.out, if_pos H0.out]
          · have h0' : ((z.toNat : Int) == 0) = false := by
              have : z.toNat ≠ 0 := fun h => h0 (UInt8.toNat_inj.1 h)
              simp; omega
            have q1 : ((p : Int) == (n : Int)) = false := by simp; omega
            have hpv : Mat.pv x n c = some p := by
              rw [hJp.out, show n - p = (n - (p + 1)) + 1 by omega]
              show (if Mat.en x p c = 0 then _ else _) = _
              rw [HZ.out, if_neg h0]
            have hstep : Mat.minv n a = Mat.gj n (n - (c + 1)) (c + 1) (Mat.stepX x n c p) (Mat.stepY x y n c p) := by
              rw [hJ.out, show n - c = (n - (c + 1)) + 1 by omega]
              rw [Mat.gj, hpv]
            obtain ⟨x1, hx1⟩ : ∃ x1, Mat.swap x c p = x1 := ⟨_, rfl⟩
            obtain ⟨y1, hy1⟩ : ∃ y1, Mat.swap y c p = y1 := ⟨_, rfl⟩
            have hen : Mat.en x1 c c = z := by
              rw [← HZ.out]
              show (x1.getD c []).getD c 0 = (x.getD p []).getD c 0
              rw [← hx1, Mat.swap_row HR.out.sx hlt hltp, if_pos rfl]
            have hstep2 : Mat.minv n a = Mat.gj n (n - (c + 1)) (c + 1) (Mat.clear (Mat.scale x1 n c (Mat.gi z)) c (fun i => Mat.en (Mat.scale x1 n c (Mat.gi z)) i c) n) (Mat.clear (Mat.scale y1 n c (Mat.gi z)) c (fun i => Mat.en (Mat.scale x1 n c (Mat.gi z)) i c) n) := by
              rw [hstep, ← hen, ← hx1, ← hy1]; rfl
            have H2 := Lib.hid hstep2
            have H0 := Lib.hid h0
            have HEN := Lib.hid hen
            have HX1 := Lib.hid hx1
            have HY1 := Lib.hid hy1
            clear hx1 hy1 hstep hstep2 hpv hen h0
            go_wp2_with fail
            clear c1 c2
            obtain ⟨sa, sc, ta, tc, d1, d2, uf, st⟩ := HR.out.swapX hlt hltp
            rw [HX1.out] at st
            have ST := Lib.hid st
            have uc := uf c
            have up := uf p
            clear st uf
            refine wp_cut [48, 49, 50, 51, 52, 53, 54, 55, 56, 57, 58, 59, 60, 61] (fun w8 => XY w1 w8 B1 B2 B3 n gx gy cx cy x1 y) ?_ ?_
            · by_cases hpc : p = c
              · subst hpc
                have e := d1.symm.trans d2
                simp only [Option.some.injEq, Value.slice.injEq, true_and] at e
                obtain ⟨rfl, rfl⟩ := e
                go_region
                exact cut_end ST.out.drew (by kernel_rfl)
              · have hpc2 : c ≠ p := fun h => hpc h.symm
                go_region
                exact cut_end ST.out.drew (by kernel_rfl)
            · intro us w4 h4
              have HR4 := Lib.hid h4
              clear h4 d1 d2 uc up ST
              obtain ⟨sa, sc, ta, tc, d1, d2, uf, st⟩ := HR4.out.swapY hlt hltp
              rw [HY1.out] at st
              have ST := Lib.hid st
              have uc := uf c
              have up := uf p
              clear st uf
              simp only [setAll, List.foldl_cons, List.foldl_nil, List.set_cons_zero, List.set_cons_succ]
              go_wp2_with fail
              refine wp_cut [62, 63, 64, 65, 66, 67, 68, 69, 70, 71, 72, 73, 74, 75] (fun w8 => XY w1 w8 B1 B2 B3 n gx gy cx cy x1 y1) ?_ ?_
              · by_cases hpc : p = c
                · subst hpc
                  have e := d1.symm.trans d2
                  simp only [Option.some.injEq, Value.slice.injEq, true_and] at e
                  obtain ⟨rfl, rfl⟩ := e
                  go_region
                  exact cut_end ST.out.drew (by kernel_rfl)
                · have hpc2 : c ≠ p := fun h => hpc h.symm
                  go_region
                  exact cut_end ST.out.drew (by kernel_rfl)
              · intro us2 w5 h5
                have HR5 := Lib.hid h5
                clear h5 d1 d2 uc up ST
                simp only [setAll, List.foldl_cons, List.foldl_nil, List.set_cons_zero, List.set_cons_succ]
                obtain ⟨b, rc, -, -, c1, c2, -, -⟩ := HR5.out.atX hlt hlt
                rw [HEN.out] at c2
                go_wp2_with fail
                refine (rinv_any z.toNat (u8lt z) (Mat.ne_toNat H0.out) _).mono ?_; rintro e w' ⟨rfl, rfl⟩
                have hgi : ginv z.toNat = (Mat.gi z).toNat := (Mat.gi_toNat z).symm
                rw [hgi]
                clear hgi c1 c2
                obtain ⟨f, hf⟩ : ∃ f, Mat.gi z = f := ⟨_, rfl⟩
                rw [hf] at H2 ⊢
                clear hf
                obtain ⟨ox, hox⟩ : ∃ ox, x1.getD c [] = ox := ⟨_, rfl⟩
                obtain ⟨oy, hoy⟩ : ∃ oy, y1.getD c [] = oy := ⟨_, rfl⟩
                obtain ⟨nx, hnx⟩ : ∃ nx, mad (List.replicate n 0) ox f = nx := ⟨_, rfl⟩
                obtain ⟨ny, hny⟩ : ∃ ny, mad (List.replicate n 0) oy f = ny := ⟨_, rfl⟩
                have lox : ox.length = n := by rw [← hox]; exact HR5.out.sx.row hlt
                have loy : oy.length = n := by rw [← hoy]; exact HR5.out.sy.row hlt
                have lnx : nx.length = n := by rw [← hnx, mad_length]; simp
                have lny : ny.length = n := by rw [← hny, mad_length]; simp
                have hsx : Mat.scale x1 n c f = x1.set c nx := by rw [← hnx, ← hox]; rfl
                have hsy : Mat.scale y1 n c f = y1.set c ny := by rw [← hny, ← hoy]; rfl
                have HL := Lib.hid (And.intro lox (And.intro loy (And.intro lnx lny)))
                have HO := Lib.hid (And.intro hox (And.intro hoy (And.intro hnx hny)))
                have HSC := Lib.hid (And.intro hsx hsy)
                clear hox hoy hnx hny lox loy lnx lny hsx hsy
                go_wp2_with fail
                go_loopw [11] (fun v11 wk => ∃ k : Nat, k ≤ n ∧ v11 = .int .i64 (k : Nat) ∧ Hid (XY w1 wk B1 B2 B3 n gx gy cx cy (x1.set c (mix nx ox k)) (y1.set c (mix ny oy k)))) (fun v11 _ => (n - intOf v11).toNat)
                case atStart => exact ⟨0, by omega, rfl, Lib.hid (by rw [mix_zero, mix_zero, ← HO.out.1, ← HO.out.2.1, Mat.set_self, Mat.set_self]; exact HR5.out)⟩
                case round =>
                  obtain ⟨k, hk, rfl, HK⟩ := hrel
                  rename World => wk
                  by_cases hltk : k < n
                  · have hltk' : (k : Int) < (n : Int) := by omega
                    obtain ⟨b, rc, b', rc', ne1, ne2, ne3, c1, c2, u1, d1, d2, u2, st⟩ := HK.out.at2 hlt hltk
                    have m1 : nx.length = ox.length := by rw [HL.out.2.2.1, HL.out.1]
                    have m2 : ny.length = oy.length := by rw [HL.out.2.2.2, HL.out.2.1]
                    have hp1 : Mat.en (x1.set c (mix nx ox k)) c k = ox.getD k 0 := by
                      show ((x1.set c (mix nx ox k)).getD c []).getD k 0 = _
                      rw [Mat.set_getD _ _ _ _ (by rw [HR5.out.sx.1]; exact hlt), if_pos rfl, List.getD_eq_getElem?_getD, mix_at m1 (by rw [HL.out.1]; exact hltk)]; rfl
                    have hp2 : Mat.en (y1.set c (mix ny oy k)) c k = oy.getD k 0 := by
                      show ((y1.set c (mix ny oy k)).getD c []).getD k 0 = _
                      rw [Mat.set_getD _ _ _ _ (by rw [HR5.out.sy.1]; exact hlt), if_pos rfl, List.getD_eq_getElem?_getD, mix_at m2 (by rw [HL.out.2.1]; exact hltk)]; rfl
                    rw [hp1] at c2
                    rw [hp2] at d2
                    have hs := st (g8 (ox.getD k 0) f) (g8 (oy.getD k 0) f)
                    have zz : ∀ (o : List UInt8), o.length = n → (mad (List.replicate n 0) o f).getD k 0 = g8 (o.getD k 0) f := fun o ho => by
                      rw [Mat.mad_getD _ _ _ _ (by simpa using hltk) (by rw [ho]; exact hltk), Mat.zeros_getD, Mat.zerox]
                    rw [set_row_set x1 n c k HR5.out.sx hlt, set_row_set y1 n c k HR5.out.sy hlt, mix_step m1 (by rw [HL.out.1]; exact hltk) (by rw [← HO.out.2.2.1]; exact (zz ox HL.out.1).symm), mix_step m2 (by rw [HL.out.2.1]; exact hltk) (by rw [← HO.out.2.2.2]; exact (zz oy HL.out.2.1).symm)] at hs
                    have ST := Lib.hid hs
                    obtain ⟨p1, hp1'⟩ : ∃ p1, ox.getD k 0 = p1 := ⟨_, rfl⟩
                    obtain ⟨p2, hp2'⟩ : ∃ p2, oy.getD k 0 = p2 := ⟨_, rfl⟩
                    rw [hp1'] at c2 ST
                    rw [hp2'] at d2 ST
                    clear hp1 hp2 m1 m2 hs zz st hp1' hp2'
                    go_wp2_with fail
                    refine wp_cut [92, 93, 94, 95, 96, 97, 98, 99, 100, 101, 102, 103, 104, 105, 106, 107, 108, 109, 110, 111, 112, 113, 114, 115, 116, 117, 118, 119, 120, 121] (fun w8 => XY w1 w8 B1 B2 B3 n gx gy cx cy (x1.set c (mix nx ox (k + 1))) (y1.set c (mix ny oy (k + 1)))) ?_ ?_
                    · have ST1 := ST.out.drew
                      unfold bv at ST1
                      rw [g8_toNat, g8_toNat] at ST1
                      have ST2 := Lib.hid ST1
                      clear ST1
                      have hS : (fun w' : World => w'.cell? ⟨gx, c, none⟩ = some (.slice (some ⟨b, 0, none⟩) n rc) ∧ w'.cell? ⟨gy, c, none⟩ = some (.slice (some ⟨b', 0, none⟩) n rc') ∧ w'.cell? ⟨b, k, none⟩ = some (bv p1) ∧ w'.cell? ⟨b', k, none⟩ = some (bv p2)) wk.drew := ⟨c1, d1, c2, d2⟩
                      have hlS : ∀ wl : World, (fun w' : World => w'.cell? ⟨gx, c, none⟩ = some (.slice (some ⟨b, 0, none⟩) n rc) ∧ w'.cell? ⟨gy, c, none⟩ = some (.slice (some ⟨b', 0, none⟩) n rc') ∧ w'.cell? ⟨b, k, none⟩ = some (bv p1) ∧ w'.cell? ⟨b', k, none⟩ = some (bv p2)) wl → wl.cell? ⟨gx, c, none⟩ = some (.slice (some ⟨b, 0, none⟩) n rc) ∧ wl.cell? ⟨gy, c, none⟩ = some (.slice (some ⟨b', 0, none⟩) n rc') ∧ wl.cell? ⟨b, k, none⟩ = some (bv p1) ∧ wl.cell? ⟨b', k, none⟩ = some (bv p2) := fun wl h => h
                      refine wp_region_U (fun w' : World => w'.cell? ⟨gx, c, none⟩ = some (.slice (some ⟨b, 0, none⟩) n rc) ∧ w'.cell? ⟨gy, c, none⟩ = some (.slice (some ⟨b', 0, none⟩) n rc') ∧ w'.cell? ⟨b, k, none⟩ = some (bv p1) ∧ w'.cell? ⟨b', k, none⟩ = some (bv p2)) 29 (by kernel_rfl) ?_
                      refine wpU_pure (i := 0) (v := ?_) rfl (by kernel_rfl) (by kernel_rfl) (by kernel_rfl) (by decide) (fun _ _ _ h => h) (fun _ => hS) (Or.inl ⟨by rfl, fun _ _ => ?_⟩) ?_
                      rotate_left
                      · go_simp
                        try with_reducible rfl
                      try simp only [Act.put]
                      refine wpU_pure (i := 1) (v := ?_) rfl (by kernel_rfl) (by kernel_rfl) (by kernel_rfl) (by decide) (fun _ _ _ h => h) (fun _ => hS) (Or.inl ⟨by rfl, fun _ _ => ?_⟩) ?_
                      rotate_left
                      · go_simp
                        try with_reducible rfl
                      try simp only [Act.put]
                      refine wpU_pure (i := 2) (v := ?_) rfl (by kernel_rfl) (by kernel_rfl) (by kernel_rfl) (by decide) (fun _ _ _ h => h) (fun _ => hS) (Or.inl ⟨by rfl, fun _ _ => ?_⟩) ?_
                      rotate_left
                      · go_simp
                        try with_reducible rfl
                      try simp only [Act.put]
                      refine wpU_load (i := 3) (v := ?_) rfl (by kernel_rfl) (by kernel_rfl) (by kernel_rfl) (by decide) (by kernel_rfl) (by kernel_rfl) (fun _ _ _ h => h) hS (Or.inl ⟨by rfl, fun wl hl => ?_⟩) ?_
                      rotate_left
                      · have hl2 := hlS wl hl
                        obtain ⟨l1, l2, l3, l4⟩ := hl2
                        go_simp
                        try with_reducible rfl
                      try simp only [Act.put]
                      refine wpU_pure (i := 4) (v := ?_) rfl (by kernel_rfl) (by kernel_rfl) (by kernel_rfl) (by decide) (fun _ _ _ h => h) (fun _ => hS) (Or.inl ⟨by rfl, fun _ _ => ?_⟩) ?_
                      rotate_left
                      · go_simp
                        try with_reducible rfl
                      try simp only [Act.put]
                      refine wpU_pure (i := 5) (v := ?_) rfl (by kernel_rfl) (by kernel_rfl) (by kernel_rfl) (by decide) (fun _ _ _ h => h) (fun _ => hS) (Or.inl ⟨by rfl, fun _ _ => ?_⟩) ?_
                      rotate_left
                      · go_simp
                        try with_reducible rfl
                      try simp only [Act.put]
                      refine wpU_pure (i := 6) (v := ?_) rfl (by kernel_rfl) (by kernel_rfl) (by kernel_rfl) (by decide) (fun _ _ _ h => h) (fun _ => hS) (Or.inl ⟨by rfl, fun _ _ => ?_⟩) ?_
                      rotate_left
                      · go_simp
                        try with_reducible rfl
                      try simp only [Act.put]
                      refine wpU_pure (i := 7) (v := ?_) rfl (by kernel_rfl) (by kernel_rfl) (by kernel_rfl) (by decide) (fun _ _ _ h => h) (fun _ => hS) (Or.inl ⟨by rfl, fun _ _ => ?_⟩) ?_
                      rotate_left
                      · go_simp
                        try with_reducible rfl
                      try simp only [Act.put]
                      refine wpU_load (i := 8) (v := ?_) rfl (by kernel_rfl) (by kernel_rfl) (by kernel_rfl) (by decide) (by kernel_rfl) (by kernel_rfl) (fun _ _ _ h => h) hS (Or.inl ⟨by rfl, fun wl hl => ?_⟩) ?_
                      rotate_left
                      · have hl2 := hlS wl hl
                        obtain ⟨l1, l2, l3, l4⟩ := hl2
                        go_simp
                        try with_reducible rfl
                      try simp only [Act.put]
                      refine wpU_pure (i := 9) (v := ?_) rfl (by kernel_rfl) (by kernel_rfl) (by kernel_rfl) (by decide) (fun _ _ _ h => h) (fun _ => hS) (Or.inl ⟨by rfl, fun _ _ => ?_⟩) ?_
                      rotate_left
                      · go_simp
                        try with_reducible rfl
                      try simp only [Act.put]
                      refine wpU_pure (i := 10) (v := ?_) rfl (by kernel_rfl) (by kernel_rfl) (by kernel_rfl) (by decide) (fun _ _ _ h => h) (fun _ => hS) (Or.inl ⟨by rfl, fun _ _ => ?_⟩) ?_
                      rotate_left
                      · go_simp
                        try with_reducible rfl
                      try simp only [Act.put]
                      refine wpU_pure (i := 11) (v := ?_) rfl (by kernel_rfl) (by kernel_rfl) (by kernel_rfl) (by decide) (fun _ _ _ h => h) (fun _ => hS) (Or.inl ⟨by rfl, fun _ _ => ?_⟩) ?_
                      rotate_left
                      · go_simp
                        try with_reducible rfl
                      try simp only [Act.put]
                      refine wpU_pure (i := 12) (v := ?_) rfl (by kernel_rfl) (by kernel_rfl) (by kernel_rfl) (by decide) (fun _ _ _ h => h) (fun _ => hS) (Or.inl ⟨by rfl, fun _ _ => ?_⟩) ?_
                      rotate_left
                      · go_simp
                        try with_reducible rfl
                      try simp only [Act.put]
                      refine wpU_load (i := 13) (v := ?_) rfl (by kernel_rfl) (by kernel_rfl) (by kernel_rfl) (by decide) (by kernel_rfl) (by kernel_rfl) (fun _ _ _ h => h) hS (Or.inl ⟨by rfl, fun wl hl => ?_⟩) ?_
                      rotate_left
                      · have hl2 := hlS wl hl
                        obtain ⟨l1, l2, l3, l4⟩ := hl2
                        go_simp
                        try with_reducible rfl
                      try simp only [Act.put]
                      refine wpU_pure (i := 14) (v := ?_) rfl (by kernel_rfl) (by kernel_rfl) (by kernel_rfl) (by decide) (fun _ _ _ h => h) (fun _ => hS) (Or.inl ⟨by rfl, fun _ _ => ?_⟩) ?_
                      rotate_left
                      · go_simp
                        try with_reducible rfl
                      try simp only [Act.put]
                      refine wpU_pure (i := 15) (v := ?_) rfl (by kernel_rfl) (by kernel_rfl) (by kernel_rfl) (by decide) (fun _ _ _ h => h) (fun _ => hS) (Or.inl ⟨by rfl, fun _ _ => ?_⟩) ?_
                      rotate_left
                      · go_simp
                        try with_reducible rfl
                      try simp only [Act.put]
                      refine wpU_load (i := 16) (v := ?_) rfl (by kernel_rfl) (by kernel_rfl) (by kernel_rfl) (by decide) (by kernel_rfl) (by kernel_rfl) (fun _ _ _ h => h) hS (Or.inl ⟨by rfl, fun wl hl => ?_⟩) ?_
                      rotate_left
                      · have hl2 := hlS wl hl
                        obtain ⟨l1, l2, l3, l4⟩ := hl2
                        go_simp
                        try with_reducible rfl
                      try simp only [Act.put]
                      refine wpU_pure (i := 17) (v := ?_) rfl (by kernel_rfl) (by kernel_rfl) (by kernel_rfl) (by decide) (fun _ _ _ h => h) (fun _ => hS) (Or.inl ⟨by rfl, fun _ _ => ?_⟩) ?_
                      rotate_left
                      · go_simp
                        try with_reducible rfl
                      try simp only [Act.put]
                      refine wpU_pure (i := 19) (v := ?_) rfl (by kernel_rfl) (by kernel_rfl) (by kernel_rfl) (by decide) (fun _ _ _ h => h) (fun _ => hS) (Or.inl ⟨by rfl, fun _ _ => ?_⟩) ?_
                      rotate_left
                      · go_simp
                        try with_reducible rfl
                      try simp only [Act.put]
                      refine wpU_pure (i := 20) (v := ?_) rfl (by kernel_rfl) (by kernel_rfl) (by kernel_rfl) (by decide) (fun _ _ _ h => h) (fun _ => hS) (Or.inl ⟨by rfl, fun _ _ => ?_⟩) ?_
                      rotate_left
                      · go_simp
                        try with_reducible rfl
                      try simp only [Act.put]
                      refine wpU_pure (i := 21) (v := ?_) rfl (by kernel_rfl) (by kernel_rfl) (by kernel_rfl) (by decide) (fun _ _ _ h => h) (fun _ => hS) (Or.inl ⟨by rfl, fun _ _ => ?_⟩) ?_
                      rotate_left
                      · go_simp
                        try with_reducible rfl
                      try simp only [Act.put]
                      refine wpU_load (i := 22) (v := ?_) rfl (by kernel_rfl) (by kernel_rfl) (by kernel_rfl) (by decide) (by kernel_rfl) (by kernel_rfl) (fun _ _ _ h => h) hS (Or.inl ⟨by rfl, fun wl hl => ?_⟩) ?_
                      rotate_left
                      · have hl2 := hlS wl hl
                        obtain ⟨l1, l2, l3, l4⟩ := hl2
                        go_simp
                        try with_reducible rfl
                      try simp only [Act.put]
                      refine wpU_pure (i := 23) (v := ?_) rfl (by kernel_rfl) (by kernel_rfl) (by kernel_rfl) (by decide) (fun _ _ _ h => h) (fun _ => hS) (Or.inl ⟨by rfl, fun _ _ => ?_⟩) ?_
                      rotate_left
                      · go_simp
                        try with_reducible rfl
                      try simp only [Act.put]
                      refine wpU_pure (i := 24) (v := ?_) rfl (by kernel_rfl) (by kernel_rfl) (by kernel_rfl) (by decide) (fun _ _ _ h => h) (fun _ => hS) (Or.inl ⟨by rfl, fun _ _ => ?_⟩) ?_
                      rotate_left
                      · go_simp
                        try with_reducible rfl
                      try simp only [Act.put]
                      refine wpU_load (i := 25) (v := ?_) rfl (by kernel_rfl) (by kernel_rfl) (by kernel_rfl) (by decide) (by kernel_rfl) (by kernel_rfl) (fun _ _ _ h => h) hS (Or.inl ⟨by rfl, fun wl hl => ?_⟩) ?_
                      rotate_left
                      · have hl2 := hlS wl hl
                        obtain ⟨l1, l2, l3, l4⟩ := hl2
                        go_simp
                        try with_reducible rfl
                      try simp only [Act.put]
                      refine wpU_pure (i := 26) (v := ?_) rfl (by kernel_rfl) (by kernel_rfl) (by kernel_rfl) (by decide) (fun _ _ _ h => h) (fun _ => hS) (Or.inl ⟨by rfl, fun _ _ => ?_⟩) ?_
                      rotate_left
                      · go_simp
                        try with_reducible rfl
                      try simp only [Act.put]
                      refine wpU_all [18] (by kernel_rfl) (by simp) ?_
                      refine ReadyU.cons rfl (fun K hK => ?_) (ReadyU.nil)
                      go_simp
                      refine (rmul_any _ _ (u8lt _) (u8lt _) _).mono ?_
                      rintro e w' ⟨rfl, rfl⟩
                      go_simp
                      refine hK.out _ _ (fun _ => hS) ?_
                      clear hK K
                      refine wpU_all [27] (by kernel_rfl) (by simp) ?_
                      refine ReadyU.cons rfl (fun K hK => ?_) (ReadyU.nil)
                      go_simp
                      refine (rmul_any _ _ (u8lt _) (u8lt _) _).mono ?_
                      rintro e w' ⟨rfl, rfl⟩
                      go_simp
                      refine hK.out _ _ (fun _ => hS) ?_
                      clear hK K
                      refine wpU_all [28] (by kernel_rfl) (by simp) ?_
                      refine ReadyU.cons rfl (fun K hK => ?_) (ReadyU.nil)
                      go_simp
                      refine hK.out _ _ (fun _ => hS) ?_
                      clear hK K
                      refine wpU_all [29] (by kernel_rfl) (by simp) ?_
                      refine ReadyU.cons rfl (fun K hK => ?_) (ReadyU.nil)
                      go_simp
                      refine hK.out _ _ (fun h => Bool.noConfusion (show true = false from h)) ?_
                      clear hK K
                      refine wpU_pure (i := 30) (v := ?_) rfl (by kernel_rfl) (by kernel_rfl) (by kernel_rfl) (by decide) (fun _ _ _ h => h) (fun h => Bool.noConfusion (show true = false from h)) (Or.inl ⟨by rfl, fun _ _ => ?_⟩) ?_
                      rotate_left
                      · go_simp
                        try with_reducible rfl
                      try simp only [Act.put]
                      refine wpU_all [31] (by kernel_rfl) (by simp) ?_
                      refine ReadyU.cons rfl (fun K hK => ?_) (ReadyU.nil)
                      go_simp
                      refine hK.out _ _ (fun h => Bool.noConfusion (show true = false from h)) ?_
                      clear hK K
                      refine wpU_done (by kernel_rfl) ?_ _
                      exact cut_end ST2.out (by kernel_rfl)
                    · intro us3 w6 h6
                      have H6 := Lib.hid h6
                      clear h6 c1 c2 d1 d2 u1 u2
                      simp only [setAll, List.foldl_cons, List.foldl_nil, List.set_cons_zero, List.set_cons_succ]
                      go_wp2_with fail
                      exact ⟨⟨k + 1, by omega, by go_num, H6⟩, by simp [intOf]; omega⟩
                  · obtain rfl : k = n := by omega
                    have hR := HK.out
                    have m1 := mix_all (new := nx) (old := ox) (by rw [HL.out.2.2.1, HL.out.1])
                    have m2 := mix_all (new := ny) (old := oy) (by rw [HL.out.2.2.2, HL.out.2.1])
                    rw [HL.out.1] at m1
                    rw [HL.out.2.1] at m2
                    rw [m1, m2] at hR
                    obtain ⟨x2, hx2⟩ : ∃ x2, x1.set c nx = x2 := ⟨_, rfl⟩
                    obtain ⟨y2, hy2⟩ : ∃ y2, y1.set c ny = y2 := ⟨_, rfl⟩
                    have h2 := H2.out
                    rw [HSC.out.1, HSC.out.2, hx2, hy2] at h2
                    rw [hx2, hy2] at hR
                    have H3 := Lib.hid h2
                    have HR6 := Lib.hid hR
                    clear m1 m2 hR hx2 hy2 h2 hltk
                    go_wp2_with fail
                    go_loopw [12] (fun v12 wq => ∃ r : Nat, r ≤ k ∧ v12 = .int .i64 (r : Nat) ∧ Hid (XY w1 wq B1 B2 B3 k gx gy cx cy (Mat.clear x2 c (fun i => Mat.en x2 i c) r) (Mat.clear y2 c (fun i => Mat.en x2 i c) r))) (fun v12 _ => (k - intOf v12).toNat)
                    case atStart => exact ⟨0, by omega, rfl, Lib.hid (by rw [Mat.clear_zero, Mat.clear_zero]; exact HR6.out)⟩
                    case round =>
                      obtain ⟨r, hr, rfl, HQ⟩ := hrel
                      rename World => wq
                      by_cases hltr : r < k
                      · have hltr' : (r : Int) < (k : Int) := by omega
                        obtain ⟨CX, hCX⟩ : ∃ CX, Mat.clear x2 c (fun i => Mat.en x2 i c) r = CX := ⟨_, rfl⟩
                        obtain ⟨CY, hCY⟩ : ∃ CY, Mat.clear y2 c (fun i => Mat.en x2 i c) r = CY := ⟨_, rfl⟩
                        have sx2 := HR6.out.sx
                        have sy2 := HR6.out.sy
                        have hrx : CX.getD r [] = x2.getD r [] := by rw [← hCX]; exact Mat.clear_at sx2 hltr
                        have hcx : CX.getD c [] = x2.getD c [] := by rw [← hCX]; exact Mat.clear_piv sx2 hlt
                        have hcy : CY.getD c [] = y2.getD c [] := by rw [← hCY]; exact Mat.clear_piv sy2 hlt
                        have hsxx := Mat.clear_succ (g := fun i => Mat.en x2 i c) sx2 hlt hltr
                        have hsyy := Mat.clear_succ (g := fun i => Mat.en x2 i c) sy2 hlt hltr
                        rw [hCX] at hsxx
                        rw [hCY] at hsyy
                        have hQ := HQ.out
                        rw [hCX, hCY] at hQ
                        obtain ⟨b, rc, -, -, c1, c2, -, -⟩ := hQ.atX hltr hlt
                        have hen : Mat.en CX r c = Mat.en x2 r c := by show (CX.getD r []).getD c 0 = (x2.getD r []).getD c 0; rw [hrx]
                        rw [hen] at c2
                        obtain ⟨g, hg⟩ : ∃ g, Mat.en x2 r c = g := ⟨_, rfl⟩
                        rw [hg] at c2 hsxx hsyy
                        by_cases hgo : r ≠ c ∧ g ≠ 0
                        · obtain ⟨hrc, hg0⟩ := hgo
                          rw [if_neg hrc] at hsxx hsyy
                          have q1 : ((r : Int) != (c : Int)) = true := by simp; omega
                          have q2 : ((g.toNat : Int) != 0) = true := by
                            have : g.toNat ≠ 0 := fun h => hg0 (UInt8.toNat_inj.1 h)
                            simp; omega
                          obtain ⟨ox, hox⟩ : ∃ ox, CX.getD r [] = ox := ⟨_, rfl⟩
                          obtain ⟨oy, hoy⟩ : ∃ oy, CY.getD r [] = oy := ⟨_, rfl⟩
                          obtain ⟨px, hpx⟩ : ∃ px, CX.getD c [] = px := ⟨_, rfl⟩
                          obtain ⟨py, hpy⟩ : ∃ py, CY.getD c [] = py := ⟨_, rfl⟩
                          rw [hox, hpx] at hsxx
                          rw [hoy, hpy] at hsyy
                          obtain ⟨mx, hmx⟩ : ∃ mx, mad ox px g = mx := ⟨_, rfl⟩
                          obtain ⟨my, hmy⟩ : ∃ my, mad oy py g = my := ⟨_, rfl⟩
                          rw [hmx] at hsxx
                          rw [hmy] at hsyy
                          have lox : ox.length = k := by rw [← hox]; exact hQ.sx.row hltr
                          have loy : oy.length = k := by rw [← hoy]; exact hQ.sy.row hltr
                          have lpx : px.length = k := by rw [← hpx]; exact hQ.sx.row hlt
                          have lpy : py.length = k := by rw [← hpy]; exact hQ.sy.row hlt
                          have lmx : mx.length = ox.length := by rw [← hmx, mad_length]
                          have lmy : my.length = oy.length := by rw [← hmy, mad_length]
                          have SC := Lib.hid (And.intro hQ.sx hQ.sy)
                          have HS := Lib.hid (And.intro hsxx hsyy)
                          have HO := Lib.hid (And.intro hox (And.intro hoy (And.intro hpx hpy)))
                          have HM := Lib.hid (And.intro hmx hmy)
                          have HL2 := Lib.hid (And.intro lox (And.intro loy (And.intro lpx (And.intro lpy (And.intro lmx lmy)))))
                          have HQ2 := Lib.hid hQ
                          have RC := Lib.hid hrc
                          clear hQ hox hoy hpx hpy hmx hmy lox loy lpx lpy lmx lmy hsxx hsyy hrx hcx hcy hen hg hCX hCY sx2 sy2 HQ hrc hg0
                          go_wp2_with fail
                          clear c1 c2
                          go_loopw [14] (fun v14 wk => ∃ q : Nat, q ≤ k ∧ v14 = .int .i64 (q : Nat) ∧ Hid (XY w1 wk B1 B2 B3 k gx gy cx cy (CX.set r (mix mx ox q)) (CY.set r (mix my oy q)))) (fun v14 _ => (k - intOf v14).toNat)
                          case atStart => exact ⟨0, by omega, rfl, Lib.hid (by rw [mix_zero, mix_zero, ← HO.out.1, ← HO.out.2.1, Mat.set_self, Mat.set_self]; exact HQ2.out)⟩
                          case round =>
                            obtain ⟨q, hq, rfl, HK⟩ := hrel
                            rename World => wk
                            by_cases hltq : q < k
                            · have hltq' : (q : Int) < (k : Int) := by omega
                              obtain ⟨b, rc, lb1, -, c1, c2, u1, st⟩ := HK.out.atX hltr hltq
                              obtain ⟨bc, rd, -, -, d1, d2, -, -⟩ := HK.out.atX hlt hltq
                              have e1 : Mat.en (CX.set r (mix mx ox q)) r q = ox.getD q 0 := by
                                show ((CX.set r (mix mx ox q)).getD r []).getD q 0 = _
                                rw [Mat.set_getD _ _ _ _ (by rw [SC.out.1.1]; exact hltr), if_pos rfl, List.getD_eq_getElem?_getD, mix_at HL2.out.2.2.2.2.1 (by rw [HL2.out.1]; exact hltq)]; rfl
                              have e2 : Mat.en (CX.set r (mix mx ox q)) c q = px.getD q 0 := by
                                show ((CX.set r (mix mx ox q)).getD c []).getD q 0 = _
                                rw [Mat.set_getD _ _ _ _ (by rw [SC.out.1.1]; exact hltr), if_neg (fun e => RC.out e.symm), HO.out.2.2.1]
                              rw [e1] at c2
                              rw [e2] at d2
                              obtain ⟨o, hoo⟩ : ∃ o, ox.getD q 0 = o := ⟨_, rfl⟩
                              obtain ⟨t, htt⟩ : ∃ t, px.getD q 0 = t := ⟨_, rfl⟩
                              rw [hoo] at c2
                              rw [htt] at d2
                              have hgb := g8_bits o g t
                              have hmx := set_row_set CX k r q SC.out.1 hltr (mix mx ox q) (o ^^^ g8 g t)
                              rw [mix_step HL2.out.2.2.2.2.1 (by rw [HL2.out.1]; exact hltq) (by rw [← HM.out.1, Mat.mad_getD _ _ _ _ (by rw [HL2.out.1]; exact hltq) (by rw [HL2.out.2.2.1]; exact hltq), hoo, htt, Mat.g8_comm])] at hmx
                              have hstw : ∀ kk, XY w1 ((wk.drewN kk).setCell ⟨b, q, none⟩ (bv (o ^^^ g8 g t))) B1 B2 B3 k gx gy cx cy (CX.set r (mix mx ox (q + 1))) (CY.set r (mix my oy q)) := fun kk => by
                                have := (st (o ^^^ g8 g t)).drewN kk
                                rw [hmx] at this
                                exact this
                              have ST := Lib.hid (hstw 1)
                              clear hmx hstw st hoo htt e1 e2
                              go_wp2_with fail
                              go_still_tail 23, (by kernel_rfl)
                              still_call ((rmul_any _ _ (u8lt _) (u8lt _) _).mono (fun _ _ h => ⟨h.1, h.2.symm⟩))
                              repeat still_step
                              refine wpStill_nil ?_
                              change wpList _ _ _ _ _ (wk.drewN 1)
                              have c3 := (Ext.of_drawn wk 1).cell c2
                              have u3 : (wk.drewN 1).frozen? ⟨b, q, none⟩ = false := u1
                              generalize wk.drewN 1 = wd at c3 u3 ST ⊢
                              clear c1 c2 d1 d2 u1 hgb
                              go_wp2_with fail
                              clear c3 u3
                              rw [show bv (o ^^^ g8 g t) = .int .u8 ((o.toNat ^^^ (g8 g t).toNat : Nat) : Int) from by unfold bv; rw [UInt8.toNat_xor]] at ST
                              generalize wd.setCell ⟨b, q, none⟩ (.int .u8 ((o.toNat ^^^ (g8 g t).toNat : Nat) : Int)) = wm at ST ⊢
                              obtain ⟨b, rc, lb1, c1, c2, u1, st⟩ := ST.out.atY hltr hltq
                              obtain ⟨bc, rd, -, d1, d2, -, -⟩ := ST.out.atY hlt hltq
                              have e1 : Mat.en (CY.set r (mix my oy q)) r q = oy.getD q 0 := by
                                show ((CY.set r (mix my oy q)).getD r []).getD q 0 = _
                                rw [Mat.set_getD _ _ _ _ (by rw [SC.out.2.1]; exact hltr), if_pos rfl, List.getD_eq_getElem?_getD, mix_at HL2.out.2.2.2.2.2 (by rw [HL2.out.2.1]; exact hltq)]; rfl
                              have e2 : Mat.en (CY.set r (mix my oy q)) c q = py.getD q 0 := by
                                show ((CY.set r (mix my oy q)).getD c []).getD q 0 = _
                                rw [Mat.set_getD _ _ _ _ (by rw [SC.out.2.1]; exact hltr), if_neg (fun e => RC.out e.symm), HO.out.2.2.2]
                              rw [e1] at c2
                              rw [e2] at d2
                              obtain ⟨o, hoo⟩ : ∃ o, oy.getD q 0 = o := ⟨_, rfl⟩
                              obtain ⟨t, htt⟩ : ∃ t, py.getD q 0 = t := ⟨_, rfl⟩
                              rw [hoo] at c2
                              rw [htt] at d2
                              have hgb := g8_bits o g t
                              have hmx := set_row_set CY k r q SC.out.2 hltr (mix my oy q) (o ^^^ g8 g t)
                              rw [mix_step HL2.out.2.2.2.2.2 (by rw [HL2.out.2.1]; exact hltq) (by rw [← HM.out.2, Mat.mad_getD _ _ _ _ (by rw [HL2.out.2.1]; exact hltq) (by rw [HL2.out.2.2.2.1]; exact hltq), hoo, htt, Mat.g8_comm])] at hmx
                              have hstw : ∀ kk, XY w1 ((wm.drewN kk).setCell ⟨b, q, none⟩ (bv (o ^^^ g8 g t))) B1 B2 B3 k gx gy cx cy (CX.set r (mix mx ox (q + 1))) (CY.set r (mix my oy (q + 1))) := fun kk => by
                                have := (st (o ^^^ g8 g t)).drewN kk
                                rw [hmx] at this
                                exact this
                              have ST2 := Lib.hid (hstw 1)
                              clear hmx hstw st hoo htt e1 e2
                              go_wp2_with fail
                              go_still_tail 23, (by kernel_rfl)
                              still_call ((rmul_any _ _ (u8lt _) (u8lt _) _).mono (fun _ _ h => ⟨h.1, h.2.symm⟩))
                              repeat still_step
                              refine wpStill_nil ?_
                              change wpList _ _ _ _ _ (wm.drewN 1)
                              have c3 := (Ext.of_drawn wm 1).cell c2
                              have u3 : (wm.drewN 1).frozen? ⟨b, q, none⟩ = false := u1
                              generalize wm.drewN 1 = wd2 at c3 u3 ST2 ⊢
                              clear c1 c2 d1 d2 u1 hgb
                              go_wp2_with fail
                              exact ⟨⟨q + 1, by omega, by go_num, ST2⟩, by simp [intOf]; omega⟩
                            · obtain rfl : q = k := by omega
                              have hR := HK.out
                              have m1 := mix_all HL2.out.2.2.2.2.1
                              have m2 := mix_all HL2.out.2.2.2.2.2
                              rw [HL2.out.1] at m1
                              rw [HL2.out.2.1] at m2
                              rw [m1, m2, ← HS.out.1, ← HS.out.2] at hR
                              have HN := Lib.hid hR
                              clear m1 m2 hR hltq
                              go_wp2_with fail
                              exact ⟨⟨r + 1, by omega, by go_num, HN⟩, by simp [intOf]; omega⟩
                        · have hkeep : XY w1 wq B1 B2 B3 k gx gy cx cy (Mat.clear x2 c (fun i => Mat.en x2 i c) (r + 1)) (Mat.clear y2 c (fun i => Mat.en x2 i c) (r + 1)) := by
                            have hz : r = c ∨ (fun i => Mat.en x2 i c) r = 0 := by
                              by_cases e : r = c
                              · exact .inl e
                              · refine .inr ?_
                                show Mat.en x2 r c = 0
                                rw [hg]
                                by_cases e2 : g = 0
                                · exact e2
                                · exact absurd ⟨e, e2⟩ hgo
                            rw [Mat.clear_same sx2 hlt hltr hz, Mat.clear_same sy2 hlt hltr hz]
                            exact HQ.out
                          have HN := Lib.hid hkeep
                          have HG := Lib.hid hgo
                          clear hkeep hrx hcx hcy hen hg hCX hCY sx2 sy2 HQ hsxx hsyy hgo hQ
                          by_cases e : r = c
                          · have q1 : ((r : Int) != (c : Int)) = false := by rw [e]; simp
                            have E := Lib.hid e
                            clear e
                            go_wp2_with fail
                            clear c1 c2
                            go_loopw [14] (fun v14 wk => v14 = .int .i64 0 ∧ wk = wq) (fun _ _ => 0)
                            case atStart => exact ⟨rfl, rfl⟩
                            case round =>
                              obtain ⟨rfl, rfl⟩ := hrel
                              go_wp2_with fail
                              exact ⟨⟨r + 1, by omega, by go_num, HN⟩, by simp [intOf]; omega⟩
                          · have q1 : ((r : Int) != (c : Int)) = true := by simp; omega
                            have q2 : ((g.toNat : Int) != 0) = false := by
                              have e2 : g = 0 := by
                                by_cases e2 : g = 0
                                · exact e2
                                · exact absurd ⟨e, e2⟩ HG.out
                              rw [e2]; simp
                            have E := Lib.hid e
                            clear e
                            go_wp2_with fail
                            clear c1 c2
                            go_loopw [14] (fun v14 wk => v14 = .int .i64 0 ∧ wk = wq) (fun _ _ => 0)
                            case atStart => exact ⟨rfl, rfl⟩
                            case round =>
                              obtain ⟨rfl, rfl⟩ := hrel
                              go_wp2_with fail
                              exact ⟨⟨r + 1, by omega, by go_num, HN⟩, by simp [intOf]; omega⟩
                      · obtain rfl : r = k := by omega
                        clear hltr
                        go_wp2_with fail
                        exact ⟨⟨c + 1, _, _, by omega, by go_num, HQ, H3⟩, by simp [intOf]; omega⟩
        · obtain rfl : p = n := by omega
          have hpv : Mat.pv x p c = none := by rw [hJp.out, Nat.sub_self]; rfl
          have HN := Lib.hid (show Mat.minv p a = none by
            rw [hJ.out, show p - c = (p - (c + 1)) + 1 by omega]
            unfold Mat.gj
            rw [hpv])
          have HF := Lib.hid (Ext.trans X1.out (show Below w1.heap.size w1 wr by rw [HB.out.1]; exact HR.out.b))
          have q1 : ((p : Int) == (p : Int)) = true := by simp
          clear hpv hltp hlt'
          go_wp2_with fail
          go_ret2
          exact .inl ⟨HN.out, rfl, HF.out⟩
    · obtain rfl : c = n := by omega
      have HJ := Lib.hid (show Mat.minv c a = some y by rw [hJ.out, Nat.sub_self]; rfl)
      have HF := Lib.hid (Ext.trans X1.out (show Below w1.heap.size w1 wr by rw [HB.out.1]; exact HR.out.b))
      have HY := Lib.hid (show RA wr w.heap.size wr.heap.size (.slice (some ⟨gy, 0, none⟩) c cy) y from HR.out.ry.mono (by rw [← HB.out.2.1]; exact Nat.le_trans X1.out.size X2.out.size) HR.out.tp)
      clear hlt hJ
      go_wp2_with fail
      go_ret2
      exact .inr ⟨y, _, HJ.out, rfl, HY.out, HF.out⟩
end Go.Proofs.Ytdmdcgcmappliaa
