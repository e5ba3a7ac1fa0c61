/-
  MatrixKnown.
-/
import Derived.Test.YtdmdcgcmappliaaMxT
namespace Go.Proofs.Ytdmdcgcmappliaa
open Go.RowKit
set_option maxRecDepth 100000
set_option maxHeartbeats 4000000
attribute [local go_sem] min_int2 max_int2 bstr_toList

theorem lit_row {w w' : World} {q n : Nat} {arr : Array Value} {l : List UInt8} (ha : arr.toList = bvs l) (hq : q = w.heap.size) (hn : n = arr.size) (hs : arr.size ≤ 70000) (hx : Ext (w.alloc (.cells arr 5)) w') : Bytes w' (.slice (some ⟨q, 0, none⟩) n n) l := by
  subst hq hn
  have h := (Own.new w 0 5 arr (Nat.zero_le _) (by unfold maxLen; omega)).cells
  rw [ha] at h
  exact Cells.ext h hx
theorem lit_mat {W : World} {q n : Nat} {arr : Array Value} {ls : List (List UInt8)} (hq : q = W.heap.size) (hn : n = arr.size) (hs : arr.size ≤ 70000) (hl : arr.size = ls.length) (hb : ∀ (i : Nat) (u : Value) (l : List UInt8), arr.toList[i]? = some u → ls[i]? = some l → Bytes W u l) :
    BRows (W.alloc (.cells arr 34)) (.slice (some ⟨q, 0, none⟩) n n) ls := by
  subst hq hn
  have h := (Own.new W 0 34 arr (Nat.zero_le _) (by unfold maxLen; omega)).cells
  exact ⟨arr.toList, h, by simpa using hl, fun i u l hu hl => (hb i u l hu hl).ext ((Ext.refl _).alloc (Nat.le_refl _) _)⟩
theorem lit_mat1 {W : World} {q : Nat} {u : Value} {l : List UInt8} (hq : q = W.heap.size) (hu : Bytes W u l) : BRows (W.alloc (.cells #[u] 34)) (.slice (some ⟨q, 0, none⟩) 1 1) [l] :=
  lit_mat hq rfl (by simp) rfl fun i x k hx hk => by
    match i with
    | 0 => simp at hx hk; subst hx hk; exact hu
    | i + 1 => simp at hx
theorem lit_mat2 {W : World} {q : Nat} {u v : Value} {l m : List UInt8} (hq : q = W.heap.size) (hu : Bytes W u l) (hv : Bytes W v m) : BRows (W.alloc (.cells #[u, v] 34)) (.slice (some ⟨q, 0, none⟩) 2 2) [l, m] :=
  lit_mat hq rfl (by simp) rfl fun i x k hx hk => by
    match i with
    | 0 => simp at hx hk; subst hx hk; exact hu
    | 1 => simp at hx hk; subst hx hk; exact hv
    | i + 2 => simp at hx
theorem ext_alloc (w : World) (o : Obj) : Ext w (w.alloc o) := (Ext.refl w).alloc (Nat.le_refl _) _
theorem asz (w : World) (o : Obj) : w.heap.size + 1 = (w.alloc o).heap.size := (alloc_size _ _).symm
theorem asz2 (w : World) (o o' : Obj) : w.heap.size + 1 + 1 = ((w.alloc o).alloc o').heap.size := by rw [alloc_size, alloc_size]
theorem asz3 (w : World) (o o' o'' : Obj) : w.heap.size + 1 + 1 + 1 = (((w.alloc o).alloc o').alloc o'').heap.size := by rw [alloc_size, alloc_size, alloc_size]
theorem lit_ints {w : World} {q : Nat} (hq : q = w.heap.size) : Ints (w.alloc (.cells #[.int .i64 0, .int .i64 2] 3)) (.slice (some ⟨q, 0, none⟩) 2 2) (([0, 2] : List Nat).map Int.ofNat) := by
  subst hq
  exact (Own.new w 0 3 #[.int .i64 0, .int .i64 2] (Nat.zero_le _) (by unfold maxLen; decide)).cells
theorem nil_rows (w : World) : BRows w (.slice none 0 0) [] := ⟨[], Cells.nil w, rfl, by simp⟩
theorem unit_good (n : Nat) (h1 : 1 ≤ n) (h2 : n ≤ 255) : Mat.Good (Mat.unit n) := ⟨n, n, h1, h2, h1, h2, Mat.unit_sh n⟩
theorem known_any (w : World) : Calls Try.prog 6 #[] w fun e w' => e = .returned (.bool true) ∧ Ext w w' := by
  go_enter Try.func6, Try.ntmps6
  go_wp2_with fail
  refine (mawake_any _).mono ?_; rintro e w1 ⟨rfl, x1⟩
  have X1 := Lib.hid x1
  clear x1
  go_wp2_with fail
  refine (invert_any _ [[1, 2], [1, 2]] 2 (by decide) ⟨rfl, by decide⟩ _ (lit_mat2 (asz2 _ _ _) (lit_row (l := [1, 2]) rfl rfl rfl (by decide) (ext_alloc _ _)) (lit_row (l := [1, 2]) rfl (asz _ _) rfl (by decide) (Ext.refl _)))).mono ?_
  rintro e w2 (⟨-, rfl, x2⟩ | ⟨z, g2, hz, -⟩)
  case inr =>
    exfalso
    have : Mat.minv 2 [[1, 2], [1, 2]] = none := by decide +kernel
    rw [this] at hz
    cases hz
  have X2 := Lib.hid (Ext.trans X1.out (Ext.trans (Ext.trans (Ext.trans (ext_alloc _ _) (ext_alloc _ _)) (ext_alloc _ _)) x2))
  clear x2
  go_wp2_with fail
  refine (mul_no _ _ [[1, 2]] [[1, 2]] (fun h => by have := h.2.2; simp at this) _ ((lit_mat1 (asz _ _) (lit_row (l := [1, 2]) rfl rfl rfl (by decide) (Ext.refl _))).ext (Ext.trans (ext_alloc _ _) (ext_alloc _ _))) (lit_mat1 (asz3 _ _ _ _) (lit_row (l := [1, 2]) rfl (asz2 _ _ _) rfl (by decide) (Ext.refl _)))).mono ?_
  rintro e w3 ⟨rfl, x3⟩
  have X3 := Lib.hid (Ext.trans X2.out (Ext.trans (Ext.trans (Ext.trans (Ext.trans (ext_alloc _ _) (ext_alloc _ _)) (ext_alloc _ _)) (ext_alloc _ _)) x3))
  clear x3
  go_wp2_with fail
  refine (unit_any 2 (by decide) (by decide) _).mono ?_; rintro e w4 ⟨g4, vs4, rfl, hO4, x4⟩
  have HO4 := Lib.hid (hO4.mr.brows (n := 2) rfl)
  have X4 := Lib.hid (Ext.trans X3.out x4)
  clear x4 hO4
  go_wp2_with fail
  refine (rows_bad _ _ (Mat.unit 2) [0, 2] (unit_good 2 (by decide) (by decide)) (by decide) (by decide) (by decide) _ (HO4.out.ext (ext_alloc _ _)) (lit_ints rfl)).mono ?_; rintro e w5 ⟨rfl, x5⟩
  have X5 := Lib.hid (Ext.trans X4.out (Ext.trans (ext_alloc _ _) x5))
  clear x5 HO4
  go_wp2_with fail
  refine (unit_any 2 (by decide) (by decide) _).mono ?_; rintro e w6 ⟨g6, vs6, rfl, hO6, x6⟩
  have HO6 := Lib.hid (hO6.mr.brows (n := 2) rfl)
  have X6 := Lib.hid (Ext.trans X5.out x6)
  clear x6 hO6
  go_wp2_with fail
  refine (rows_none _ (Mat.unit 2) (unit_good 2 (by decide) (by decide)) _ HO6.out).mono ?_; rintro e w7 ⟨rfl, x7⟩
  have X7 := Lib.hid (Ext.trans X6.out x7)
  clear x7 HO6
  go_wp2_with fail
  refine (sys_no 200 56 (by decide) _).mono ?_; rintro e w' ⟨rfl, rfl⟩
  go_wp2_with fail
  refine (sys_no 0 1 (by decide) _).mono ?_; rintro e w' ⟨rfl, rfl⟩
  go_wp2_with fail
  have e11 : Mat.mmul [[1, 2]] [[3], [4]] 1 = [[11]] := by decide +kernel
  refine (mul_any _ _ [[1, 2]] [[3], [4]] 1 2 1 (by decide) (by decide) (by decide) ⟨rfl, by decide⟩ ⟨rfl, by decide⟩ _ ((lit_mat1 (asz _ _) (lit_row (l := [1, 2]) rfl rfl rfl (by decide) (Ext.refl _))).ext (Ext.trans (Ext.trans (ext_alloc _ _) (ext_alloc _ _)) (ext_alloc _ _)))
    (lit_mat2 (by rw [alloc_size, alloc_size, alloc_size, alloc_size]) (lit_row (l := [3]) rfl (asz2 _ _ _) rfl (by decide) (ext_alloc _ _)) (lit_row (l := [4]) rfl (asz3 _ _ _ _) rfl (by decide) (Ext.refl _)))).mono ?_
  rintro e w8 ⟨g8, rfl, hM, x8⟩
  rw [e11] at hM
  obtain ⟨ra, rc, c1, hb⟩ := hM.at (i := 0) (l := [11]) rfl
  obtain ⟨rb, ro, rfl⟩ := hb.open1 (by decide)
  have c2 : w8.cell? ⟨rb, ro, none⟩ = some (.int .u8 11) := hb.cellAt (j := 0) rfl
  have C1 := Lib.hid c1
  have C2 := Lib.hid c2
  have X8 := Lib.hid (Ext.trans X7.out (Ext.trans (Ext.trans (Ext.trans (Ext.trans (Ext.trans (ext_alloc _ _) (ext_alloc _ _)) (ext_alloc _ _)) (ext_alloc _ _)) (ext_alloc _ _)) x8))
  have c1' : w8.cell? ⟨g8, 0, none⟩ = some (.slice (some ⟨rb, ro, none⟩) 1 rc) := c1
  clear x8 hM hb e11 c1
  go_wp2_with fail
  refine (square_good _ [[1, 2]] 1 2 (by decide) (by decide) (by decide) (by decide) ⟨rfl, by decide⟩ _ (lit_mat1 (asz _ _) (lit_row (l := [1, 2]) rfl rfl rfl (by decide) (Ext.refl _)))).mono ?_
  rintro e w9 ⟨rfl, x9⟩
  rw [decide_eq_false (by decide : ¬ 1 = 2)]
  have X9 := Lib.hid (Ext.trans X8.out (Ext.trans (Ext.trans (ext_alloc _ _) (ext_alloc _ _)) x9))
  clear x9 c1' c2
  go_wp2_with fail
  refine (square_no _ [] (fun h => by have := h.sides.1; simp at this) _ (nil_rows _)).mono ?_; rintro e w10 ⟨rfl, x10⟩
  have X10 := Lib.hid (Ext.trans X9.out x10)
  clear x10
  go_wp2_with fail
  refine (unit_none _).mono ?_; rintro e w' ⟨rfl, rfl⟩
  go_wp2_with fail
  refine (vand_none _).mono ?_; rintro e w' ⟨rfl, rfl⟩
  go_wp2_with fail
  go_ret
  exact ⟨rfl, X10.out⟩
end Go.Proofs.Ytdmdcgcmappliaa
