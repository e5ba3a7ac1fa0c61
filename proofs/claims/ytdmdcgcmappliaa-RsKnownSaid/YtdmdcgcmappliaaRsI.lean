/-
  RsKnown.
-/
import Derived.Test.YtdmdcgcmappliaaRsH
namespace Go.Proofs.Ytdmdcgcmappliaa
open Go.RowKit Gf
set_option maxRecDepth 100000
set_option maxHeartbeats 4000000
attribute [local go_sem] min_int2 max_int2 bstr_toList

theorem lit_mat3 {W : World} {q : Nat} {u v x : Value} {l m k : List UInt8} (hq : q = W.heap.size) (hu : Bytes W u l) (hv : Bytes W v m) (hx : Bytes W x k) : BRows (W.alloc (.cells #[u, v, x] 34)) (.slice (some ⟨q, 0, none⟩) 3 3) [l, m, k] :=
  lit_mat hq rfl (by simp) rfl fun i y z hy hz => by
    match i with
    | 0 => simp at hy hz; subst hy hz; exact hu
    | 1 => simp at hy hz; subst hy hz; exact hv
    | 2 => simp at hy hz; subst hy hz; exact hx
    | i + 3 => simp at hy
theorem lit_mat4 {W : World} {q : Nat} {u v x y : Value} {l m k j : List UInt8} (hq : q = W.heap.size) (hu : Bytes W u l) (hv : Bytes W v m) (hx : Bytes W x k) (hy : Bytes W y j) : BRows (W.alloc (.cells #[u, v, x, y] 34)) (.slice (some ⟨q, 0, none⟩) 4 4) [l, m, k, j] :=
  lit_mat hq rfl (by simp) rfl fun i a b ha hb => by
    match i with
    | 0 => simp at ha hb; subst ha hb; exact hu
    | 1 => simp at ha hb; subst ha hb; exact hv
    | 2 => simp at ha hb; subst ha hb; exact hx
    | 3 => simp at ha hb; subst ha hb; exact hy
    | i + 4 => simp at ha
theorem rsknown_any (w : World) : Calls Try.prog 12 #[] w fun e w' => e = .returned (.bool true) ∧ Ext w w' := by
  have hmk := make_row (P := Try.prog) 22 34 (.slice none 0 0) 24 4 Try.underlying22 info_bytes rfl (by decide) (by decide)
  have hmk' : ∀ w, (Instr.makeSlice 22 (.int .i64 4) (.int .i64 4)).run Try.prog w = .ok (.slice (some ⟨w.heap.size, 0, none⟩) 4 4) (w.alloc (.cells (Array.replicate 4 (.slice none 0 0)) 34)) := hmk
  clear hmk
  go_enter Try.func12, Try.ntmps12
  go_wp2_with fail
  refine (rsawake_any _).mono ?_; rintro e w1 ⟨rfl, x1⟩
  have X1 := Lib.hid x1
  clear x1
  go_wp2_with fail
  refine (rsnew_no 0 1 (by decide) _).mono ?_; rintro e w' ⟨rfl, rfl⟩
  go_wp2_with fail
  refine (rsnew_no 200 56 (by decide) _).mono ?_; rintro e w' ⟨rfl, rfl⟩
  go_wp2_with fail
  refine (rsnew_any 2 2 (by decide) (by decide) (by decide) _).mono ?_; rintro e w2 ⟨cb, X, hX, rfl, hC, x2⟩
  have HX : Hid (CodeMat X 2 4) := Lib.hid (CodeMat.of_sys (by decide) (by decide) (by decide) hX)
  have HC : Hid (CodeAt w2 cb 2 4 X) := Lib.hid hC
  have X2 := Lib.hid (Ext.trans X1.out x2)
  clear hX hC x2
  go_wp2_with fail
  refine (enc_no cb 2 4 X _ [[1], [1, 2]] (by decide) (by decide) (by decide) _ (HC.out.ext (Ext.trans (Ext.trans (ext_alloc _ _) (ext_alloc _ _)) (ext_alloc _ _))) (lit_mat2 (asz2 _ _ _) (lit_row (l := [1]) rfl rfl rfl (by decide) (ext_alloc _ _)) (lit_row (l := [1, 2]) rfl (asz _ _) rfl (by decide) (Ext.refl _)))).mono ?_
  rintro e w3 ⟨rfl, hw3⟩
  have x3 := Ext.of_eq hw3
  have X3 := Lib.hid (Ext.trans X2.out (Ext.trans (Ext.trans (Ext.trans (ext_alloc _ _) (ext_alloc _ _)) (ext_alloc _ _)) x3))
  have HC3 := Lib.hid (HC.out.ext (Ext.trans (Ext.trans (Ext.trans (ext_alloc _ _) (ext_alloc _ _)) (ext_alloc _ _)) x3))
  clear x3 hw3
  go_wp2_with fail
  refine (reb_short cb 2 4 X _ [[1], [], [], []] 1 (by decide) (by decide) HX.out rfl (by decide) (by decide) (by decide) _ (HC3.out.ext (Ext.trans (ext_alloc _ _) (ext_alloc _ _))) (lit_mat4 (asz _ _) (lit_row (l := [1]) rfl rfl rfl (by decide) (Ext.refl _)) (Cells.nil _) (Cells.nil _) (Cells.nil _))).mono ?_
  rintro e w4 ⟨rfl, x4⟩
  have X4 := Lib.hid (Ext.trans X3.out (Ext.trans (Ext.trans (ext_alloc _ _) (ext_alloc _ _)) x4))
  have HC4 := Lib.hid (HC3.out.ext (Ext.trans (Ext.trans (ext_alloc _ _) (ext_alloc _ _)) x4))
  clear x4
  go_wp2_with fail
  refine (reb_uneven cb 2 4 X _ [[1], [1, 2], [], []] HX.out rfl (by
      rintro ⟨n, hn⟩
      have h1 := hn [1] (by simp)
      have h2 := hn [1, 2] (by simp)
      simp at h1 h2
      omega) _ (HC4.out.ext (Ext.trans (Ext.trans (ext_alloc _ _) (ext_alloc _ _)) (ext_alloc _ _))) (lit_mat4 (asz2 _ _ _) (lit_row (l := [1]) rfl rfl rfl (by decide) (ext_alloc _ _)) (lit_row (l := [1, 2]) rfl (asz _ _) rfl (by decide) (Ext.refl _)) (Cells.nil _) (Cells.nil _))).mono ?_
  rintro e w5 ⟨rfl, x5⟩
  have X5 := Lib.hid (Ext.trans X4.out (Ext.trans (Ext.trans (Ext.trans (ext_alloc _ _) (ext_alloc _ _)) (ext_alloc _ _)) x5))
  have HC5 := Lib.hid (HC4.out.ext (Ext.trans (Ext.trans (Ext.trans (ext_alloc _ _) (ext_alloc _ _)) (ext_alloc _ _)) x5))
  clear x5
  go_wp2_with fail
  refine (reb_len cb 2 4 X _ [[1], [1], [1]] (by decide) (by decide) _ (HC5.out.ext (Ext.trans (Ext.trans (Ext.trans (ext_alloc _ _) (ext_alloc _ _)) (ext_alloc _ _)) (ext_alloc _ _))) (lit_mat3 (asz3 _ _ _ _) (lit_row (l := [1]) rfl rfl rfl (by decide) (Ext.trans (ext_alloc _ _) (ext_alloc _ _))) (lit_row (l := [1]) rfl (asz _ _) rfl (by decide) (ext_alloc _ _)) (lit_row (l := [1]) rfl (asz2 _ _ _) rfl (by decide) (Ext.refl _)))).mono ?_
  rintro e w6 ⟨rfl, hw6⟩
  have x6 := Ext.of_eq hw6
  have X6 := Lib.hid (Ext.trans X5.out (Ext.trans (Ext.trans (Ext.trans (Ext.trans (ext_alloc _ _) (ext_alloc _ _)) (ext_alloc _ _)) (ext_alloc _ _)) x6))
  have HC6 := Lib.hid (HC5.out.ext (Ext.trans (Ext.trans (Ext.trans (Ext.trans (ext_alloc _ _) (ext_alloc _ _)) (ext_alloc _ _)) (ext_alloc _ _)) x6))
  clear x6 hw6
  go_wp2_with fail
  refine (reb_zero cb 2 4 X _ (List.replicate 4 []) HX.out rfl (by decide) _ (HC6.out.ext (ext_alloc _ _)) ((MR.start _ 0 4 (Nat.zero_le _)).brows (n := 4) rfl)).mono ?_
  rintro e w7 ⟨u, rfl, hU, x7⟩
  obtain ⟨ua, uc, rfl⟩ := hU.form
  obtain ⟨ub, uo, ra, rc, rfl, c3, -⟩ := hU.at (i := 3) (l := []) rfl
  have C3 := Lib.hid (show w7.cell? ⟨ub, uo + 3, none⟩ = some (.slice ra 0 rc) from c3)
  have X7 := Lib.hid (Ext.trans X6.out (Ext.trans (ext_alloc _ _) x7))
  have HC7 := Lib.hid (HC6.out.ext (Ext.trans (ext_alloc _ _) x7))
  clear x7 hU c3
  go_wp2_with fail
  have hmm : Mat.mmul X ((List.replicate 4 ([] : List UInt8)).take 2) 0 = List.replicate 4 [] :=
    Mat.mat_ext (n := 4) (m := 0) (Mat.mmul_sh HX.out.sh) ⟨rfl, by decide⟩ (fun i _ j hj => by omega)
  refine (ver_any cb 2 4 X _ (List.replicate 4 []) 0 (by decide) true HX.out ⟨rfl, by decide⟩ ⟨fun _ => hmm, fun _ => rfl⟩ _ (HC7.out.ext (ext_alloc _ _)) ((MR.start _ 0 4 (Nat.zero_le _)).brows (n := 4) rfl)).mono ?_
  rintro e w8 ⟨rfl, x8⟩
  have c3 := Ext.cell (Ext.trans (ext_alloc _ _) x8) C3.out
  have X8 := Lib.hid (Ext.trans X7.out (Ext.trans (ext_alloc _ _) x8))
  clear x8 hmk' hmm
  go_wp2_with fail
  go_ret
  exact ⟨rfl, X8.out⟩
end Go.Proofs.Ytdmdcgcmappliaa
