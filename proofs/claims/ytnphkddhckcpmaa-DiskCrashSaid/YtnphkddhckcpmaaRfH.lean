/-
  Both: what is done on both disks is answered alike.
-/
import Derived.Test.YtnphkddhckcpmaaRfG
namespace Go.Proofs.Ytnphkddhckcpmaa
open Go.RowKit Dk
set_option maxRecDepth 100000
set_option maxHeartbeats 4000000
attribute [local go_sem] min_int2 max_int2 bstr_toList bstr_size

/-- What a deed (0 to 6) makes of the fuse and the disk. -/
def stepB (z : Option FS) (d : DS) (x : Deed) : Option FS × DS :=
  if x.act = 0 then (begins z d [x.a]).2 else if x.act = 1 then (writes z d x.a x.data).2 else if x.act = 2 then (writes z d x.a x.data).2 else if x.act = 3 then (syncs z d x.a).2
  else if x.act = 4 then (renames z d x.a x.b).2 else if x.act = 5 then (deletes z d x.a).2 else (begins z d []).2
theorem Lab.drop5 {w0 w : World} {X Y Z V U R : Thing} (h : Lab w0 w (X.star (Y.star (Z.star (V.star (U.star R)))))) : Lab w0 w (X.star (Y.star (Z.star (V.star R)))) := h.ent (.star (.refl _) (.star (.refl _) (.star (.refl _) (.star (.refl _) .right))))
theorem both_any (w0 w : World) (Y : Thing) (s r : Nat) (fp rf : Option Nat) (fv : Value) (z : Option FS) (d : DS) (x : Deed) (da : Option Addr) (dc : Nat) (hL : Lab w0 w ((fuseT fp z).star ((simT s fp d).star ((rfuseT rf z).star ((refT r rf d).star Y))))) (hact : 0 ≤ x.act ∧ x.act ≤ 6)
    (ha : x.a.length ≤ maxLen) (hb : x.b.length ≤ maxLen) (hD : Bytes w0 (.slice da x.data.length dc) x.data) (hdl : x.data.length ≤ 140737488351232) (hzo : zops z < 1099511627776) (hn : d.fs.length ≤ 4096) (ht : tot d.fs ≤ 1000000) :
    Calls Try.prog 35 #[.pointer (some ⟨s, 0, none⟩), fv, .pointer (some ⟨r, 0, none⟩), .agg #[.int .i64 x.act, .int .i64 x.n, .string (bstr x.a), .string (bstr x.b), .slice da x.data.length dc]] w fun e w' =>
      e = .returned (.bool true) ∧ Lab w0 w' ((fuseT fp (stepB z d x).1).star ((simT s fp (stepB z d x).2).star ((rfuseT rf (stepB z d x).1).star ((refT r rf (stepB z d x).2).star Y)))) := by
  obtain ⟨xd, xn, xa, xc, xt⟩ := x
  simp only at ha hb hD hdl hact ⊢
  have HX := Lib.hid (And.intro ha (And.intro hb (And.intro hD hdl)))
  have hr := Row.new w 32 #[.int .i64 xd, .int .i64 xn, .string (bstr xa), .string (bstr xc), .slice da xt.length dc]
  have hx1 : Ext w (w.alloc (.cells #[.int .i64 xd, .int .i64 xn, .string (bstr xa), .string (bstr xc), .slice da xt.length dc] 32)) := (Ext.refl w).alloc (Nat.le_refl _) _
  have hL1 := (hL.new hx1 (X := rowT w.heap.size 32 #[.int .i64 xd, .int .i64 xn, .string (bstr xa), .string (bstr xc), .slice da xt.length dc]) (T := fun b => w.heap.size = b) ⟨hr, fun _ => Iff.rfl⟩ (fun _ hb => Nat.le_of_eq hb)).fifth'
  obtain ⟨w2, hw2⟩ : ∃ w2, w.alloc (.cells #[.int .i64 xd, .int .i64 xn, .string (bstr xa), .string (bstr xc), .slice da xt.length dc] 32) = w2 := ⟨_, rfl⟩
  rw [hw2] at hL1
  obtain ⟨xb, hxb⟩ : ∃ xb, w.heap.size = xb := ⟨_, rfl⟩
  rw [hxb] at hL1
  have HL2 := Lib.hid (show Lab w0 w2 ((fuseT fp z).star ((simT s fp d).star ((rfuseT rf z).star ((refT r rf d).star ((rowT xb 32 #[.int .i64 xd, .int .i64 xn, .string (bstr xa), .string (bstr xc), .slice da xt.length dc]).star Y))))) from hL1)
  have hrow := rowT.row hL1.right.right.right.right.left
  have c0 := hrow.cell (i := 0) (v := .int .i64 xd) rfl
  have c2 := hrow.cell (i := 2) (v := .string (bstr xa)) rfl
  have c3 := hrow.cell (i := 3) (v := .string (bstr xc)) rfl
  have c4 := hrow.cell (i := 4) (v := .slice da xt.length dc) rfl
  clear hL hr hx1 hL1 hrow ha hb hD hdl
  go_enter Try.func35, Try.ntmps35
  by_cases h0 : xd = 0
  · subst h0
    have HST := Lib.hid (show stepB z d ⟨0, xn, xa, xc, xt⟩ = (begins z d [xa]).2 from rfl)
    go_wp2_with fail
    refine (HL2.out.read xa hzo HX.out.1 (by omega)).mono ?_; rintro e w3 ⟨u, rfl, hL⟩
    obtain ⟨ua, uc, hu⟩ := Own.slice' (ownT.own hL.left)
    rw [bvs_len] at hu
    subst hu
    have c2 := (rowT.row hL.right.right.right.right.right.left).cell (i := 2) (v := .string (bstr xa)) rfl
    have HL3 := Lib.hid hL.fifth'
    clear hL
    go_wp2_with fail
    refine (HL3.out.flip.rread xa hzo HX.out.1 (by omega) hn).mono ?_; rintro e w4 ⟨u2, rfl, hL⟩
    obtain ⟨va, vc, hu⟩ := Own.slice' (ownT.own hL.left)
    rw [bvs_len] at hu
    subst hu
    have y2 := str_conv (ownT.own hL.left).cells w4 (Ext.refl _)
    have y1 := str_conv (ownT.own hL.right.right.right.right.right.left).cells w4 (Ext.refl _)
    have HF := Lib.hid hL.right.flip
    obtain ⟨k, hk⟩ : ∃ k, opens z d xa [] = k := ⟨_, rfl⟩
    rw [hk]
    obtain ⟨bb, hbb⟩ : ∃ bb, readb z d xa = bb := ⟨_, rfl⟩
    rw [hbb] at y1 y2 ⊢
    clear hL hk hbb
    go_wp2_with fail
    go_ret
    rw [HST.out]
    exact ⟨rfl, Lab.drop5 (Lab.drop5 HF.out)⟩
  by_cases h1 : xd = 1
  · subst h1
    have HST := Lib.hid (show stepB z d ⟨1, xn, xa, xc, xt⟩ = (writes z d xa xt).2 from rfl)
    obtain ⟨nn, hnn⟩ : ∃ nn, (writes z d xa xt).1 = nn := ⟨_, rfl⟩
    obtain ⟨y, hy⟩ : ∃ y, (writes z d xa xt).2 = y := ⟨_, rfl⟩
    have HY := Lib.hid (And.intro hnn hy)
    have A1 : Hid (∀ W, Lab w0 W ((fuseT fp z).star ((simT s fp d).star ((rfuseT rf z).star ((refT r rf d).star ((rowT xb 32 #[.int .i64 1, .int .i64 xn, .string (bstr xa), .string (bstr xc), .slice da xt.length dc]).star Y))))) → Calls Try.prog 17 #[.pointer (some ⟨s, 0, none⟩), .string (bstr xa), .slice da xt.length dc] W fun e w' => e = .returned (.int .i64 (nn : Nat)) ∧ (fun w' : World => w'.cell? ⟨xb, 2, none⟩ = some (.string (bstr xa)) ∧ w'.cell? ⟨xb, 4, none⟩ = some (.slice da xt.length dc)) w' ∧ Lab w0 w' ((fuseT fp y.1).star ((simT s fp y.2).star ((rfuseT rf z).star ((refT r rf d).star ((rowT xb 32 #[.int .i64 1, .int .i64 xn, .string (bstr xa), .string (bstr xc), .slice da xt.length dc]).star Y)))))) := Lib.hid fun W hL => by
      refine (hL.write xa _ xt hzo HX.out.1 (Cells.ext HX.out.2.2.1 hL.toExt) HX.out.2.2.2 (by omega) hn).mono ?_
      rintro e w' ⟨h1, h2⟩
      rw [HY.out.1] at h1
      rw [HY.out.2] at h2
      exact ⟨h1, ⟨(rowT.row h2.right.right.right.right.left).cell (i := 2) rfl, (rowT.row h2.right.right.right.right.left).cell (i := 4) rfl⟩, h2⟩
    have A2 : Hid (∀ W, Lab w0 W ((fuseT fp y.1).star ((simT s fp y.2).star ((rfuseT rf z).star ((refT r rf d).star ((rowT xb 32 #[.int .i64 1, .int .i64 xn, .string (bstr xa), .string (bstr xc), .slice da xt.length dc]).star Y))))) → Calls Try.prog 46 #[.pointer (some ⟨r, 0, none⟩), .string (bstr xa), .slice da xt.length dc] W fun e w' => e = .returned (.int .i64 (nn : Nat)) ∧ (fun w' : World => w'.cell? ⟨xb, 2, none⟩ = some (.string (bstr xa)) ∧ w'.cell? ⟨xb, 4, none⟩ = some (.slice da xt.length dc)) w' ∧ Lab w0 w' ((fuseT fp y.1).star ((simT s fp y.2).star ((rfuseT rf y.1).star ((refT r rf y.2).star ((rowT xb 32 #[.int .i64 1, .int .i64 xn, .string (bstr xa), .string (bstr xc), .slice da xt.length dc]).star Y)))))) := Lib.hid fun W hL => by
      refine (hL.flip.rwrite xa _ xt hzo HX.out.1 (Cells.ext HX.out.2.2.1 hL.toExt) HX.out.2.2.2 (by omega) hn).mono ?_
      rintro e w' ⟨h1, h2⟩
      rw [HY.out.1] at h1
      rw [HY.out.2] at h2
      have h3 := h2.flip
      exact ⟨h1, ⟨(rowT.row h3.right.right.right.right.left).cell (i := 2) rfl, (rowT.row h3.right.right.right.right.left).cell (i := 4) rfl⟩, h3⟩
    have x0 := HL2.out.drew
    have S0 : (fun w' : World => w'.cell? ⟨xb, 2, none⟩ = some (.string (bstr xa)) ∧ w'.cell? ⟨xb, 4, none⟩ = some (.slice da xt.length dc)) w2.drew := ⟨(rowT.row x0.right.right.right.right.left).cell (i := 2) rfl, (rowT.row x0.right.right.right.right.left).cell (i := 4) rfl⟩
    clear hnn hy
    go_wp2_with fail
    go_region_held3 (fun w' : World => w'.cell? ⟨xb, 2, none⟩ = some (.string (bstr xa)) ∧ w'.cell? ⟨xb, 4, none⟩ = some (.slice da xt.length dc)) (assumption) (first | (go_at_call 17; refine (A1.out _ x0).mono ?_; rintro e w4 ⟨rfl, hS4, hL4⟩) | (go_at_call 46; refine (A2.out _ hL4).mono ?_; rintro e w5 ⟨rfl, hS5, hL5⟩))
    have HF := Lib.hid hL5
    clear x0 S0 hS4 hL4 hS5 hL5
    go_wp2_with fail
    go_ret
    rw [HST.out, HY.out.2]
    exact ⟨rfl, Lab.drop5 HF.out⟩
  by_cases h2 : xd = 2
  · subst h2
    have HST := Lib.hid (show stepB z d ⟨2, xn, xa, xc, xt⟩ = (writes z d xa xt).2 from rfl)
    obtain ⟨nn, hnn⟩ : ∃ nn, (writes z d xa xt).1 = nn := ⟨_, rfl⟩
    obtain ⟨y, hy⟩ : ∃ y, (writes z d xa xt).2 = y := ⟨_, rfl⟩
    have HY := Lib.hid (And.intro hnn hy)
    have A1 : Hid (∀ W, Lab w0 W ((fuseT fp z).star ((simT s fp d).star ((rfuseT rf z).star ((refT r rf d).star ((rowT xb 32 #[.int .i64 2, .int .i64 xn, .string (bstr xa), .string (bstr xc), .slice da xt.length dc]).star Y))))) → Calls Try.prog 17 #[.pointer (some ⟨s, 0, none⟩), .string (bstr xa), .slice da xt.length dc] W fun e w' => e = .returned (.int .i64 (nn : Nat)) ∧ (fun w' : World => w'.cell? ⟨xb, 2, none⟩ = some (.string (bstr xa)) ∧ w'.cell? ⟨xb, 4, none⟩ = some (.slice da xt.length dc)) w' ∧ Lab w0 w' ((fuseT fp y.1).star ((simT s fp y.2).star ((rfuseT rf z).star ((refT r rf d).star ((rowT xb 32 #[.int .i64 2, .int .i64 xn, .string (bstr xa), .string (bstr xc), .slice da xt.length dc]).star Y)))))) := Lib.hid fun W hL => by
      refine (hL.write xa _ xt hzo HX.out.1 (Cells.ext HX.out.2.2.1 hL.toExt) HX.out.2.2.2 (by omega) hn).mono ?_
      rintro e w' ⟨h1, h2⟩
      rw [HY.out.1] at h1
      rw [HY.out.2] at h2
      exact ⟨h1, ⟨(rowT.row h2.right.right.right.right.left).cell (i := 2) rfl, (rowT.row h2.right.right.right.right.left).cell (i := 4) rfl⟩, h2⟩
    have A2 : Hid (∀ W, Lab w0 W ((fuseT fp y.1).star ((simT s fp y.2).star ((rfuseT rf z).star ((refT r rf d).star ((rowT xb 32 #[.int .i64 2, .int .i64 xn, .string (bstr xa), .string (bstr xc), .slice da xt.length dc]).star Y))))) → Calls Try.prog 46 #[.pointer (some ⟨r, 0, none⟩), .string (bstr xa), .slice da xt.length dc] W fun e w' => e = .returned (.int .i64 (nn : Nat)) ∧ (fun w' : World => w'.cell? ⟨xb, 2, none⟩ = some (.string (bstr xa)) ∧ w'.cell? ⟨xb, 4, none⟩ = some (.slice da xt.length dc)) w' ∧ Lab w0 w' ((fuseT fp y.1).star ((simT s fp y.2).star ((rfuseT rf y.1).star ((refT r rf y.2).star ((rowT xb 32 #[.int .i64 2, .int .i64 xn, .string (bstr xa), .string (bstr xc), .slice da xt.length dc]).star Y)))))) := Lib.hid fun W hL => by
      refine (hL.flip.rwrite xa _ xt hzo HX.out.1 (Cells.ext HX.out.2.2.1 hL.toExt) HX.out.2.2.2 (by omega) hn).mono ?_
      rintro e w' ⟨h1, h2⟩
      rw [HY.out.1] at h1
      rw [HY.out.2] at h2
      have h3 := h2.flip
      exact ⟨h1, ⟨(rowT.row h3.right.right.right.right.left).cell (i := 2) rfl, (rowT.row h3.right.right.right.right.left).cell (i := 4) rfl⟩, h3⟩
    have x0 := HL2.out.drew
    have S0 : (fun w' : World => w'.cell? ⟨xb, 2, none⟩ = some (.string (bstr xa)) ∧ w'.cell? ⟨xb, 4, none⟩ = some (.slice da xt.length dc)) w2.drew := ⟨(rowT.row x0.right.right.right.right.left).cell (i := 2) rfl, (rowT.row x0.right.right.right.right.left).cell (i := 4) rfl⟩
    clear hnn hy
    go_wp2_with fail
    go_region_held3 (fun w' : World => w'.cell? ⟨xb, 2, none⟩ = some (.string (bstr xa)) ∧ w'.cell? ⟨xb, 4, none⟩ = some (.slice da xt.length dc)) (assumption) (first | (go_at_call 17; refine (A1.out _ x0).mono ?_; rintro e w4 ⟨rfl, hS4, hL4⟩) | (go_at_call 46; refine (A2.out _ hL4).mono ?_; rintro e w5 ⟨rfl, hS5, hL5⟩))
    have HF := Lib.hid hL5
    clear x0 S0 hS4 hL4 hS5 hL5
    go_wp2_with fail
    go_ret
    rw [HST.out, HY.out.2]
    exact ⟨rfl, Lab.drop5 HF.out⟩
  by_cases h3 : xd = 3
  · subst h3
    have HST := Lib.hid (show stepB z d ⟨3, xn, xa, xc, xt⟩ = (syncs z d xa).2 from rfl)
    obtain ⟨nn, hnn⟩ : ∃ nn, (syncs z d xa).1 = nn := ⟨_, rfl⟩
    obtain ⟨y, hy⟩ : ∃ y, (syncs z d xa).2 = y := ⟨_, rfl⟩
    have HY := Lib.hid (And.intro hnn hy)
    have A1 : Hid (∀ W, Lab w0 W ((fuseT fp z).star ((simT s fp d).star ((rfuseT rf z).star ((refT r rf d).star ((rowT xb 32 #[.int .i64 3, .int .i64 xn, .string (bstr xa), .string (bstr xc), .slice da xt.length dc]).star Y))))) → Calls Try.prog 31 #[.pointer (some ⟨s, 0, none⟩), .string (bstr xa)] W fun e w' => e = .returned (.int .i64 (nn : Nat)) ∧ (fun w' : World => w'.cell? ⟨xb, 2, none⟩ = some (.string (bstr xa))) w' ∧ Lab w0 w' ((fuseT fp y.1).star ((simT s fp y.2).star ((rfuseT rf z).star ((refT r rf d).star ((rowT xb 32 #[.int .i64 3, .int .i64 xn, .string (bstr xa), .string (bstr xc), .slice da xt.length dc]).star Y)))))) := Lib.hid fun W hL => by
      refine (hL.sync xa hzo HX.out.1).mono ?_
      rintro e w' ⟨h1, h2⟩
      rw [HY.out.1] at h1
      rw [HY.out.2] at h2
      exact ⟨h1, (rowT.row h2.right.right.right.right.left).cell (i := 2) rfl, h2⟩
    have A2 : Hid (∀ W, Lab w0 W ((fuseT fp y.1).star ((simT s fp y.2).star ((rfuseT rf z).star ((refT r rf d).star ((rowT xb 32 #[.int .i64 3, .int .i64 xn, .string (bstr xa), .string (bstr xc), .slice da xt.length dc]).star Y))))) → Calls Try.prog 47 #[.pointer (some ⟨r, 0, none⟩), .string (bstr xa)] W fun e w' => e = .returned (.int .i64 (nn : Nat)) ∧ (fun w' : World => w'.cell? ⟨xb, 2, none⟩ = some (.string (bstr xa))) w' ∧ Lab w0 w' ((fuseT fp y.1).star ((simT s fp y.2).star ((rfuseT rf y.1).star ((refT r rf y.2).star ((rowT xb 32 #[.int .i64 3, .int .i64 xn, .string (bstr xa), .string (bstr xc), .slice da xt.length dc]).star Y)))))) := Lib.hid fun W hL => by
      refine (hL.flip.rsync xa hzo HX.out.1 hn).mono ?_
      rintro e w' ⟨h1, h2⟩
      rw [HY.out.1] at h1
      rw [HY.out.2] at h2
      have h3 := h2.flip
      exact ⟨h1, (rowT.row h3.right.right.right.right.left).cell (i := 2) rfl, h3⟩
    have x0 := HL2.out.drew
    have S0 : (fun w' : World => w'.cell? ⟨xb, 2, none⟩ = some (.string (bstr xa))) w2.drew := (rowT.row x0.right.right.right.right.left).cell (i := 2) rfl
    clear hnn hy
    go_wp2_with fail
    go_region_held3 (fun w' : World => w'.cell? ⟨xb, 2, none⟩ = some (.string (bstr xa))) (assumption) (first | (go_at_call 31; refine (A1.out _ x0).mono ?_; rintro e w4 ⟨rfl, hS4, hL4⟩) | (go_at_call 47; refine (A2.out _ hL4).mono ?_; rintro e w5 ⟨rfl, hS5, hL5⟩))
    have HF := Lib.hid hL5
    clear x0 S0 hS4 hL4 hS5 hL5
    go_wp2_with fail
    go_ret
    rw [HST.out, HY.out.2]
    exact ⟨rfl, Lab.drop5 HF.out⟩
  by_cases h4 : xd = 4
  · subst h4
    have HST := Lib.hid (show stepB z d ⟨4, xn, xa, xc, xt⟩ = (renames z d xa xc).2 from rfl)
    obtain ⟨nn, hnn⟩ : ∃ nn, (renames z d xa xc).1 = nn := ⟨_, rfl⟩
    obtain ⟨y, hy⟩ : ∃ y, (renames z d xa xc).2 = y := ⟨_, rfl⟩
    have HY := Lib.hid (And.intro hnn hy)
    have A1 : Hid (∀ W, Lab w0 W ((fuseT fp z).star ((simT s fp d).star ((rfuseT rf z).star ((refT r rf d).star ((rowT xb 32 #[.int .i64 4, .int .i64 xn, .string (bstr xa), .string (bstr xc), .slice da xt.length dc]).star Y))))) → Calls Try.prog 32 #[.pointer (some ⟨s, 0, none⟩), .string (bstr xa), .string (bstr xc)] W fun e w' => e = .returned (.int .i64 (nn : Nat)) ∧ (fun w' : World => w'.cell? ⟨xb, 2, none⟩ = some (.string (bstr xa)) ∧ w'.cell? ⟨xb, 3, none⟩ = some (.string (bstr xc))) w' ∧ Lab w0 w' ((fuseT fp y.1).star ((simT s fp y.2).star ((rfuseT rf z).star ((refT r rf d).star ((rowT xb 32 #[.int .i64 4, .int .i64 xn, .string (bstr xa), .string (bstr xc), .slice da xt.length dc]).star Y)))))) := Lib.hid fun W hL => by
      refine (hL.rename xa xc hzo HX.out.1 HX.out.2.1 hn).mono ?_
      rintro e w' ⟨h1, h2⟩
      rw [HY.out.1] at h1
      rw [HY.out.2] at h2
      exact ⟨h1, ⟨(rowT.row h2.right.right.right.right.left).cell (i := 2) rfl, (rowT.row h2.right.right.right.right.left).cell (i := 3) rfl⟩, h2⟩
    have A2 : Hid (∀ W, Lab w0 W ((fuseT fp y.1).star ((simT s fp y.2).star ((rfuseT rf z).star ((refT r rf d).star ((rowT xb 32 #[.int .i64 4, .int .i64 xn, .string (bstr xa), .string (bstr xc), .slice da xt.length dc]).star Y))))) → Calls Try.prog 48 #[.pointer (some ⟨r, 0, none⟩), .string (bstr xa), .string (bstr xc)] W fun e w' => e = .returned (.int .i64 (nn : Nat)) ∧ (fun w' : World => w'.cell? ⟨xb, 2, none⟩ = some (.string (bstr xa)) ∧ w'.cell? ⟨xb, 3, none⟩ = some (.string (bstr xc))) w' ∧ Lab w0 w' ((fuseT fp y.1).star ((simT s fp y.2).star ((rfuseT rf y.1).star ((refT r rf y.2).star ((rowT xb 32 #[.int .i64 4, .int .i64 xn, .string (bstr xa), .string (bstr xc), .slice da xt.length dc]).star Y)))))) := Lib.hid fun W hL => by
      refine (hL.flip.rrename xa xc hzo HX.out.1 HX.out.2.1 hn).mono ?_
      rintro e w' ⟨h1, h2⟩
      rw [HY.out.1] at h1
      rw [HY.out.2] at h2
      have h3 := h2.flip
      exact ⟨h1, ⟨(rowT.row h3.right.right.right.right.left).cell (i := 2) rfl, (rowT.row h3.right.right.right.right.left).cell (i := 3) rfl⟩, h3⟩
    have x0 := HL2.out.drew
    have S0 : (fun w' : World => w'.cell? ⟨xb, 2, none⟩ = some (.string (bstr xa)) ∧ w'.cell? ⟨xb, 3, none⟩ = some (.string (bstr xc))) w2.drew := ⟨(rowT.row x0.right.right.right.right.left).cell (i := 2) rfl, (rowT.row x0.right.right.right.right.left).cell (i := 3) rfl⟩
    clear hnn hy
    go_wp2_with fail
    go_region_held3 (fun w' : World => w'.cell? ⟨xb, 2, none⟩ = some (.string (bstr xa)) ∧ w'.cell? ⟨xb, 3, none⟩ = some (.string (bstr xc))) (assumption) (first | (go_at_call 32; refine (A1.out _ x0).mono ?_; rintro e w4 ⟨rfl, hS4, hL4⟩) | (go_at_call 48; refine (A2.out _ hL4).mono ?_; rintro e w5 ⟨rfl, hS5, hL5⟩))
    have HF := Lib.hid hL5
    clear x0 S0 hS4 hL4 hS5 hL5
    go_wp2_with fail
    go_ret
    rw [HST.out, HY.out.2]
    exact ⟨rfl, Lab.drop5 HF.out⟩
  by_cases h5 : xd = 5
  · subst h5
    have HST := Lib.hid (show stepB z d ⟨5, xn, xa, xc, xt⟩ = (deletes z d xa).2 from rfl)
    obtain ⟨nn, hnn⟩ : ∃ nn, (deletes z d xa).1 = nn := ⟨_, rfl⟩
    obtain ⟨y, hy⟩ : ∃ y, (deletes z d xa).2 = y := ⟨_, rfl⟩
    have HY := Lib.hid (And.intro hnn hy)
    have A1 : Hid (∀ W, Lab w0 W ((fuseT fp z).star ((simT s fp d).star ((rfuseT rf z).star ((refT r rf d).star ((rowT xb 32 #[.int .i64 5, .int .i64 xn, .string (bstr xa), .string (bstr xc), .slice da xt.length dc]).star Y))))) → Calls Try.prog 20 #[.pointer (some ⟨s, 0, none⟩), .string (bstr xa)] W fun e w' => e = .returned (.int .i64 (nn : Nat)) ∧ (fun w' : World => w'.cell? ⟨xb, 2, none⟩ = some (.string (bstr xa))) w' ∧ Lab w0 w' ((fuseT fp y.1).star ((simT s fp y.2).star ((rfuseT rf z).star ((refT r rf d).star ((rowT xb 32 #[.int .i64 5, .int .i64 xn, .string (bstr xa), .string (bstr xc), .slice da xt.length dc]).star Y)))))) := Lib.hid fun W hL => by
      refine (hL.delete xa hzo HX.out.1).mono ?_
      rintro e w' ⟨h1, h2⟩
      rw [HY.out.1] at h1
      rw [HY.out.2] at h2
      exact ⟨h1, (rowT.row h2.right.right.right.right.left).cell (i := 2) rfl, h2⟩
    have A2 : Hid (∀ W, Lab w0 W ((fuseT fp y.1).star ((simT s fp y.2).star ((rfuseT rf z).star ((refT r rf d).star ((rowT xb 32 #[.int .i64 5, .int .i64 xn, .string (bstr xa), .string (bstr xc), .slice da xt.length dc]).star Y))))) → Calls Try.prog 49 #[.pointer (some ⟨r, 0, none⟩), .string (bstr xa)] W fun e w' => e = .returned (.int .i64 (nn : Nat)) ∧ (fun w' : World => w'.cell? ⟨xb, 2, none⟩ = some (.string (bstr xa))) w' ∧ Lab w0 w' ((fuseT fp y.1).star ((simT s fp y.2).star ((rfuseT rf y.1).star ((refT r rf y.2).star ((rowT xb 32 #[.int .i64 5, .int .i64 xn, .string (bstr xa), .string (bstr xc), .slice da xt.length dc]).star Y)))))) := Lib.hid fun W hL => by
      refine (hL.flip.rdelete xa hzo HX.out.1 hn).mono ?_
      rintro e w' ⟨h1, h2⟩
      rw [HY.out.1] at h1
      rw [HY.out.2] at h2
      have h3 := h2.flip
      exact ⟨h1, (rowT.row h3.right.right.right.right.left).cell (i := 2) rfl, h3⟩
    have x0 := HL2.out.drew
    have S0 : (fun w' : World => w'.cell? ⟨xb, 2, none⟩ = some (.string (bstr xa))) w2.drew := (rowT.row x0.right.right.right.right.left).cell (i := 2) rfl
    clear hnn hy
    go_wp2_with fail
    go_region_held3 (fun w' : World => w'.cell? ⟨xb, 2, none⟩ = some (.string (bstr xa))) (assumption) (first | (go_at_call 20; refine (A1.out _ x0).mono ?_; rintro e w4 ⟨rfl, hS4, hL4⟩) | (go_at_call 49; refine (A2.out _ hL4).mono ?_; rintro e w5 ⟨rfl, hS5, hL5⟩))
    have HF := Lib.hid hL5
    clear x0 S0 hS4 hL4 hS5 hL5
    go_wp2_with fail
    go_ret
    rw [HST.out, HY.out.2]
    exact ⟨rfl, Lab.drop5 HF.out⟩
  obtain rfl : xd = 6 := by omega
  have HST := Lib.hid (show stepB z d ⟨6, xn, xa, xc, xt⟩ = (begins z d []).2 from rfl)
  go_wp2_with fail
  refine (HL2.out.list xa hzo hn).mono ?_; rintro e w3 ⟨u, rfl, hL⟩
  obtain ⟨ua, uc, hu⟩ := Own.slice' (ownT.own hL.left)
  rw [pvs_len] at hu
  subst hu
  have c2 := (rowT.row hL.right.right.right.right.right.left).cell (i := 2) (v := .string (bstr xa)) rfl
  have HL3 := Lib.hid hL.fifth'
  clear hL
  go_wp2_with fail
  refine (HL3.out.flip.rlist xa hzo hn).mono ?_; rintro e w4 ⟨u2, rfl, hL⟩
  obtain ⟨va, vc, hu⟩ := Own.slice' (ownT.own hL.left)
  rw [pvs_len] at hu
  subst hu
  have HU1 := Lib.hid (ownT.own hL.right.right.right.right.right.left)
  have HU2 := Lib.hid (ownT.own hL.left)
  have HF := Lib.hid hL.right.flip
  have hll : (lists z d xa).length ≤ 4096 := by
    unfold lists
    split
    · refine Nat.le_trans (List.length_filter_le _ _) ?_
      unfold paths; rw [List.length_map]; exact hn
    · simp
  obtain ⟨k, hk⟩ : ∃ k, (begins z d []).1 = k := ⟨_, rfl⟩
  rw [hk]
  clear hL hk
  go_wp2_with fail
  refine (texts_same _ _ (lists z d xa) _ HU1.out HU2.out (by unfold maxLen; omega)).mono ?_; rintro e w5 ⟨rfl, x5⟩
  have HF5 := Lib.hid (HF.out.ext x5)
  clear x5
  go_wp2_with fail
  go_ret
  rw [HST.out]
  exact ⟨rfl, Lab.drop5 (Lab.drop5 HF5.out)⟩
end Go.Proofs.Ytnphkddhckcpmaa
