/-
  rs: Rebuild of too few, of none; Verify; what is made again is what it was.
-/
import Derived.Test.YtdmdcgcmappliaaRsE
import Derived.Test.YtdmdcgcmappliaaMxK
namespace Go.Proofs.Ytdmdcgcmappliaa
open Go.RowKit Gf
set_option maxRecDepth 100000
set_option maxHeartbeats 4000000
attribute [local go_sem] min_int2 max_int2

theorem idx_nodup (S : Mat.M) : (idx S).Nodup := by
  unfold idx
  exact List.Pairwise.filter _ List.nodup_range
theorem over_back {X Z D S : Mat.M} {k nn n : Nat} (hX : CodeMat X k nn) (hD : Mat.Sh D k n) (hSl : S.length = nn) (hS : ∀ i, i < nn → (S.getD i []).length = 0 ∨ S.getD i [] = (Mat.mmul X D n).getD i []) (hk : k ≤ (idx S).length) (hZ : Mat.minv k (Mat.pick X ((idx S).take k)) = some Z) :
    over (Mat.mmul X (Mat.mmul Z (Mat.pick S ((idx S).take k)) n) n) S nn = Mat.mmul X D n := by
  have hE := Mat.mmul_sh (b := D) (m := n) hX.sh
  have hL : ∀ i ∈ (idx S).take k, i < nn ∧ S.getD i [] = (Mat.mmul X D n).getD i [] := fun i hi => by
    obtain ⟨h1, h2⟩ := idx_mem.1 (List.mem_of_mem_take hi)
    rw [hSl] at h1
    refine ⟨h1, (hS i h1).resolve_left (by omega)⟩
  have hlen : ((idx S).take k).length = k := by rw [List.length_take]; omega
  have hp : Mat.pick S ((idx S).take k) = Mat.pick (Mat.mmul X D n) ((idx S).take k) := by
    unfold Mat.pick
    exact List.map_congr_left fun i hi => (hL i hi).2
  have hPX := Mat.pick_sh hX.sh (fun i hi => (hL i hi).1)
  rw [hlen] at hPX
  have hZs := (Mat.minv_spec hPX hZ).1
  rw [hp, ← Mat.pick_mmul hX.sh (fun i hi => (hL i hi).1), ← Mat.mmul_assoc hZs hPX hD, Mat.minv_left hPX hZ, Mat.unit_mmul hD]
  apply List.ext_getElem?
  intro i
  by_cases hi : i < nn
  · unfold over
    rw [List.getElem?_map, List.getElem?_range hi, (hE.get hi).1]
    simp only [Option.map_some]
    by_cases h0 : 0 < (S.getD i []).length
    · rw [if_pos h0, (hS i hi).resolve_left (by omega)]
    · rw [if_neg h0]
  · rw [List.getElem?_eq_none (by unfold over; simp; omega), List.getElem?_eq_none (by rw [hE.1]; omega)]

theorem reb_zero (cb k nn : Nat) (X : Mat.M) (vs : Value) (S : Mat.M) (hX : CodeMat X k nn) (hS : S.length = nn) (hSn : ∀ r ∈ S, r.length = 0) (w : World) (h : CodeAt w cb k nn X) (hV : BRows w vs S) :
    Calls Try.prog 37 #[.pointer (some ⟨cb, 0, none⟩), vs] w fun e w' => ∃ u, e = .returned (.tuple #[u, .int .i64 0]) ∧ BRows w' u (List.replicate nn []) ∧ Ext w w' := by
  obtain ⟨va, vc, rfl⟩ := hV.form
  have k1 := hX.k1
  have kn := hX.kn
  have n2 := hX.n255
  rw [hS] at hV ⊢
  have HC := Lib.hid h
  have HV := Lib.hid hV
  have HS := Lib.hid (And.intro hS hSn)
  have hk0 : ((k : Int) == 0) = false := beq_eq_false_iff_ne.2 (by omega)
  have hnn : ((nn : Int) != (nn : Int)) = false := by simp
  obtain ⟨xg, t, c0, c1, -, -, -, -⟩ := h.cells
  have hmk : ∀ w, (Instr.makeSlice 22 (.int .i64 (nn : Int)) (.int .i64 (nn : Int))).run Try.prog w = .ok (.slice (some ⟨w.heap.size, 0, none⟩) nn nn) (w.alloc (.cells (Array.replicate nn (.slice none 0 0)) 34)) :=
    make_row (P := Try.prog) 22 34 (.slice none 0 0) 24 nn Try.underlying22 info_bytes rfl (by omega) (by omega)
  clear h hV hX hS hSn
  go_enter Try.func37, Try.ntmps37
  go_wp2_with fail
  refine (rsK_any cb k nn X _ HC.out).mono ?_; rintro e w' ⟨rfl, rfl⟩
  go_wp2_with fail
  refine (there_yes _ S 0 (by rw [HS.out.1]; omega) (fun r hr => .inl (HS.out.2 r hr)) _ HV.out).mono ?_; rintro e w1 ⟨la, lc, m, Lx, hL, rfl, hI, x1⟩
  obtain rfl : m = 0 := by
    rw [hL.out.2]; split <;> rfl
  have c1 := Ext.cell x1 c1
  have X1 := Lib.hid (Ext.trans x1 ((Ext.refl w1).alloc (Nat.le_refl _) (.cells (Array.replicate nn (.slice none 0 0)) 34)))
  have HN := Lib.hid ((MR.start w1 0 nn (Nat.zero_le _)).brows (n := nn) (by simp))
  clear hL hI x1
  go_wp2_with fail
  go_ret2
  exact ⟨_, rfl, HN.out, X1.out⟩
theorem reb_short (cb k nn : Nat) (X : Mat.M) (vs : Value) (S : Mat.M) (n : Nat) (hn : n ≤ 70000) (hn0 : 0 < n) (hX : CodeMat X k nn) (hS : S.length = nn) (hSn : ∀ r ∈ S, r.length = 0 ∨ r.length = n) (hi0 : idx S ≠ []) (hk : (idx S).length < k) (w : World) (h : CodeAt w cb k nn X) (hV : BRows w vs S) :
    Calls Try.prog 37 #[.pointer (some ⟨cb, 0, none⟩), vs] w fun e w' => e = .returned (.tuple #[.slice none 0 0, .int .i64 2]) ∧ Ext w w' := by
  obtain ⟨va, vc, rfl⟩ := hV.form
  have k1 := hX.k1
  have kn := hX.kn
  have n2 := hX.n255
  rw [hS] at hV ⊢
  have HC := Lib.hid h
  have HV := Lib.hid hV
  have HS := Lib.hid (And.intro hS (And.intro hSn (And.intro hk hi0)))
  have hk0 : ((k : Int) == 0) = false := beq_eq_false_iff_ne.2 (by omega)
  have hnn : ((nn : Int) != (nn : Int)) = false := by simp
  obtain ⟨xg, t, c0, c1, -, -, -, -⟩ := h.cells
  clear h hV hX hS hSn hk hi0
  go_enter Try.func37, Try.ntmps37
  go_wp2_with fail
  refine (rsK_any cb k nn X _ HC.out).mono ?_; rintro e w' ⟨rfl, rfl⟩
  go_wp2_with fail
  refine (there_yes _ S n (by rw [HS.out.1]; omega) HS.out.2.1 _ HV.out).mono ?_; rintro e w1 ⟨la, lc, m, Lx, hL, rfl, hI, x1⟩
  have hLx : Lx = idx S := hL.out.1
  have hmn : m = n := by
    rw [hL.out.2, if_neg]
    rw [hLx]; exact HS.out.2.2.2
  subst hmn
  have c0 := Ext.cell x1 c0
  have X1 := Lib.hid x1
  have hm0 : ((m : Int) == 0) = false := beq_eq_false_iff_ne.2 (by omega)
  have hkl : (Lx.length : Int) < (k : Int) := by have := HS.out.2.2.1; rw [← hLx] at this; omega
  clear hL hLx hI x1 c1
  go_wp2_with fail
  go_ret2
  exact ⟨rfl, X1.out⟩

/-- Verify. -/
theorem ver_any (cb k nn : Nat) (X : Mat.M) (vs : Value) (S : Mat.M) (n : Nat) (hn : n ≤ 70000) (d : Bool) (hX : CodeMat X k nn) (hS : Mat.Sh S nn n) (hd : d = true ↔ Mat.mmul X (S.take k) n = S) (w : World) (h : CodeAt w cb k nn X) (hV : BRows w vs S) :
    Calls Try.prog 39 #[.pointer (some ⟨cb, 0, none⟩), vs] w fun e w' => e = .returned (.tuple #[.bool d, .int .i64 0]) ∧ Ext w w' := by
  obtain ⟨va, vc, rfl⟩ := hV.form
  have k1 := hX.k1
  have kn := hX.kn
  have n2 := hX.n255
  rw [hS.1] at hV ⊢
  have HX := Lib.hid hX
  have HC := Lib.hid h
  have HV := Lib.hid hV
  have HS := Lib.hid hS
  have HD := Lib.hid hd
  have hk0 : ((k : Int) == 0) = false := beq_eq_false_iff_ne.2 (by omega)
  have hnn : ((nn : Int) != (nn : Int)) = false := by simp
  obtain ⟨xg, t, c0, c1, -, -, -, -⟩ := h.cells
  have hST : Mat.Sh (S.take k) k n := ⟨by rw [List.length_take, hS.1]; omega, fun r hr => hS.2 r (List.mem_of_mem_take hr)⟩
  have HST := Lib.hid hST
  have HVT := Lib.hid (hV.take k (by omega))
  have hcap : nn ≤ vc := by
    obtain ⟨zs, ⟨a', c', e, h1, -, -⟩, h2, -⟩ := hV
    simp only [Value.slice.injEq] at e
    rw [e.2.2, e.2.1]; exact h1
  have hkc : (k : Int) ≤ (vc : Int) := by omega
  have hkn' : (k : Int) ≤ (nn : Int) := by omega
  have hkz : 0 ≤ (k : Int) := by omega
  clear h hV hX hS hd hST hcap
  go_enter Try.func39, Try.ntmps39
  go_wp2_with fail
  refine (rsK_any cb k nn X _ HC.out).mono ?_; rintro e w' ⟨rfl, rfl⟩
  go_wp2_with fail
  refine (even_any _ S true ⟨fun _ r hr => by rw [HS.out.2 r hr, HS.out.row (by omega)], fun _ => rfl⟩ (by rw [HS.out.1]; unfold maxLen; omega) _ HV.out).mono ?_; rintro e w' ⟨rfl, rfl⟩
  go_wp2_with fail
  refine (enc_any cb k nn X _ (S.take k) n hn HX.out HST.out _ HC.out HVT.out).mono ?_; rintro e w1 ⟨u, rfl, hU, x1⟩
  have HU := Lib.hid hU.brows
  have HV1 := Lib.hid (HV.out.ext x1)
  have X1 := Lib.hid x1
  have HEl := Lib.hid (Mat.mmul_sh (b := S.take k) (m := n) HX.out.sh).1
  clear hU x1 c0 c1
  go_wp2_with fail
  refine (same_any _ _ _ S d HD.out (by rw [HEl.out]; unfold maxLen; omega) _ HU.out HV1.out).mono ?_; rintro e w2 ⟨rfl, q, hq⟩
  have X2 := Lib.hid (Ext.trans X1.out (by rw [hq]; exact Ext.of_drawn _ _ : Ext w1 w2))
  clear hq
  go_wp2_with fail
  go_ret2
  exact ⟨rfl, X2.out⟩
end Go.Proofs.Ytdmdcgcmappliaa
