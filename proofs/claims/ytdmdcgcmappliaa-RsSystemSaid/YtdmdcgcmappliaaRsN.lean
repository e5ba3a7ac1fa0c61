/-
  RsSystem.
-/
import Derived.Test.YtdmdcgcmappliaaRsG
import Derived.Test.YtdmdcgcmappliaaMxS
import Derived.Test.YtdmdcgcmappliaaRefE
import Derived.Deep.RegionHeld3
namespace Go.Proofs.Ytdmdcgcmappliaa
open Go.RowKit Gf
set_option maxRecDepth 100000
set_option maxHeartbeats 4000000
attribute [local go_sem] min_int2 max_int2 bstr_toList

def onesM (n j : Nat) : Mat.M := (List.range n).map fun r => if r < j then [0] else []
theorem onesM_len (n j : Nat) : (onesM n j).length = n := by simp [onesM]
theorem onesM_zero (n : Nat) : onesM n 0 = List.replicate n [] := by
  apply List.ext_getElem (by simp [onesM])
  intro i h1 h2
  simp [onesM]
theorem onesM_get {n j r : Nat} (h : r < n) : (onesM n j)[r]? = some (if r < j then [0] else []) := by
  unfold onesM
  rw [List.getElem?_map, List.getElem?_range h]; rfl
theorem onesM_step {n j : Nat} (h : j < n) : (onesM n j).set j ([] ++ [0]) = onesM n (j + 1) := by
  apply List.ext_getElem?
  intro r
  rw [List.getElem?_set, onesM_len]
  by_cases hr : r < n
  · rw [onesM_get hr, onesM_get hr]
    by_cases e : j = r
    · subst e; rw [if_pos rfl, if_pos h, if_pos (by omega)]; rfl
    · rw [if_neg e]
      by_cases h2 : r < j
      · rw [if_pos h2, if_pos (by omega)]
      · rw [if_neg h2, if_neg (by omega)]
  · rw [if_neg (by omega), List.getElem?_eq_none (by rw [onesM_len]; omega), List.getElem?_eq_none (by rw [onesM_len]; omega)]
theorem onesM_sh (n : Nat) : Mat.Sh (onesM n n) n 1 := ⟨onesM_len n n, fun r hr => by
  obtain ⟨i, hi, rfl⟩ := List.mem_map.1 hr
  rw [if_pos (by simpa using hi)]; rfl⟩
/-- The data: one byte y at row i, noughts else. -/
def oneAt (n i : Nat) (y : UInt8) : Mat.M := (onesM n n).set i [y]
theorem oneAt_sh (n i : Nat) (y : UInt8) : Mat.Sh (oneAt n i y) n 1 := (onesM_sh n).set rfl
theorem oneAt_en {n i r : Nat} (y : UInt8) (hi : i < n) (hr : r < n) : Mat.en (oneAt n i y) r 0 = if r = i then y else 0 := by
  unfold Mat.en oneAt
  rw [Mat.set_getD _ _ _ _ (by rw [onesM_len]; exact hi)]
  by_cases e : r = i
  · rw [if_pos e, if_pos e]; rfl
  · rw [if_neg e, if_neg e]
    have h2 : (onesM n n).getD r [] = [0] := by rw [List.getD_eq_getElem?_getD, onesM_get hr, if_pos hr]; rfl
    rw [h2]; rfl
theorem oneAt_enc {X : Mat.M} {n nn i r : Nat} (y : UInt8) (hX : Mat.Sh X nn n) (hi : i < n) (hr : r < nn) : (Mat.mmul X (oneAt n i y) 1).getD r [] = [g8 (Mat.en X r i) y] := by
  have hs := Mat.mmul_sh (b := oneAt n i y) (m := 1) hX
  have hl := hs.row hr
  have he := Mat.mmul_en hX (oneAt_sh n i y) r hr 0 (by omega)
  obtain ⟨z, hz⟩ : ∃ z, (Mat.mmul X (oneAt n i y) 1).getD r [] = [z] := List.length_eq_one_iff.1 hl
  rw [hz]
  unfold Mat.en at he
  rw [hz] at he
  have e2 : Mat.mul n (Mat.en X) (Mat.en (oneAt n i y)) r 0 = g8 (Mat.en X r i) y := by
    unfold Mat.mul
    rw [Mat.sm_one n _ i hi (fun k hk hne => by rw [oneAt_en y hi hk, if_neg hne, Mat.g8_zero_left]), oneAt_en y hi hi, if_pos rfl, Mat.g8_comm]
  have he : z = Mat.mul n (Mat.en X) (Mat.en (oneAt n i y)) r 0 := he
  rw [he, e2]
theorem AppOut.zero1 (w : World) (B : Nat) (hB : B ≤ w.heap.size) (v : Value) : AppOut w B 5 v (bvs ([] ++ [0])) (.slice (some ⟨w.heap.size, 0, none⟩) 1 1) (w.alloc (.cells #[.int .u8 0] 5)) := AppOut.zeros w B 1 hB (by omega) _

theorem rssystem_any (w : World) (x y : UInt8) (a0 a1 : UInt8) :
    Calls Try.prog 11 #[bv x, bv y, .agg #[bv a0, bv a1]] w fun e w' => e = .returned (.bool true) ∧ Ext w w' := by
  obtain ⟨n, hn⟩ : ∃ n : Nat, 1 + x.toNat % 12 = n := ⟨_, rfl⟩
  obtain ⟨p, hp⟩ : ∃ p : Nat, 1 + y.toNat % 12 = p := ⟨_, rfl⟩
  have f1 := Lib.hid (wrap_mod x 12 n (by omega) (by omega) hn)
  have f2 := Lib.hid (wrap_mod y 12 p (by omega) (by omega) hp)
  have n1 : 1 ≤ n := by omega
  have n2 : n ≤ 12 := by omega
  have k1 : 1 ≤ p := by omega
  have k2 : p ≤ 12 := by omega
  obtain ⟨i, hi⟩ : ∃ i : Nat, a0.toNat % n = i := ⟨_, rfl⟩
  have hin : i < n := by rw [← hi]; exact Nat.mod_lt _ n1
  have ez : (Go.RowKit.wrap64 (a0.toNat : Int)).tmod (n : Int) = (i : Int) := by
    have := a0.toNat_lt
    rw [show Go.RowKit.wrap64 (a0.toNat : Int) = (a0.toNat : Int) from by unfold Go.RowKit.wrap64; omega, ← hi]
    exact (Int.ofNat_tmod _ _).symm
  have EZ := Lib.hid ez
  have hmk : ∀ w : World, (Instr.makeSlice 22 (.int .i64 (n : Int)) (.int .i64 (n : Int))).run Try.prog w = .ok (.slice (some ⟨w.heap.size, 0, none⟩) n n) (w.alloc (.cells (Array.replicate n (.slice none 0 0)) 34)) :=
    make_row 22 34 (.slice none 0 0) 24 n Try.underlying22 info_bytes rfl (by omega) (by omega)
  clear hn hp hi ez
  go_enter Try.func11, Try.ntmps11
  go_wp2_with fail
  have xw : Ext w (w.alloc (.cells #[bv a0, bv a1] 59)) := (Ext.refl w).alloc (Nat.le_refl _) _
  have ca0 : (w.alloc (.cells #[bv a0, bv a1] 59)).cell? ⟨w.heap.size, 0, none⟩ = some (bv a0) := (Row.new w 59 _).cell (by rfl)
  have ca1 : (w.alloc (.cells #[bv a0, bv a1] 59)).cell? ⟨w.heap.size, 1, none⟩ = some (bv a1) := (Row.new w 59 _).cell (by rfl)
  generalize w.alloc (.cells #[bv a0, bv a1] 59) = w0 at xw ca0 ca1 ⊢
  obtain ⟨sb, hsb⟩ : ∃ sb, w.heap.size = sb := ⟨_, rfl⟩
  rw [hsb] at ca0 ca1 ⊢
  have CA := Lib.hid (And.intro ca0 ca1)
  have XW := Lib.hid xw
  clear ca0 ca1 xw hsb
  refine (rsawake_any _).mono ?_; rintro e w1 ⟨rfl, x1⟩
  have CA1 := Lib.hid (And.intro (x1.cell CA.out.1) (x1.cell CA.out.2))
  have X1 := Lib.hid (Ext.trans XW.out x1)
  clear x1
  go_wp2_with fail
  rw [show Go.RowKit.wrap64 (1 + (Go.RowKit.wrap64 (x.toNat : Int)).tmod 12) = (n : Int) from f1.out, show Go.RowKit.wrap64 (1 + (Go.RowKit.wrap64 (y.toNat : Int)).tmod 12) = (p : Int) from f2.out]
  clear f1 f2
  refine (rsnew_any n p n1 k1 (by omega) _).mono ?_; rintro e w2 ⟨cb, X, hX, rfl, hC, x2⟩
  obtain ⟨q, hq⟩ : ∃ q, n + p = q := ⟨_, rfl⟩
  have hqi : (n : Int) + (p : Int) = (q : Int) := by omega
  rw [hq] at hC
  have HM := Lib.hid (hq ▸ CodeMat.of_sys n1 k1 (by omega) hX : CodeMat X n q)
  have HXs := Lib.hid hX
  have HC := Lib.hid hC
  have CA2 := Lib.hid (And.intro (x2.cell CA1.out.1) (x2.cell CA1.out.2))
  have X2 := Lib.hid (Ext.trans X1.out x2)
  have HQ := Lib.hid hq
  have q1 : n < q := by omega
  have q2 : q ≤ 24 := by omega
  clear x2 hC hX hq
  go_wp2_with fail
  refine (rsys_any n p n1 k1 (by omega) _).mono ?_; rintro e w3 ⟨X', u3, hX', rfl, hU, x3⟩
  rw [HXs.out] at hX'
  cases hX'
  have hb3 := hU.brows
  obtain ⟨xa3, xc3, rfl⟩ := hb3.form
  rw [HM.out.sh.1] at hb3 ⊢
  have HU3 := Lib.hid hb3
  clear hb3
  have HC3 := Lib.hid (HC.out.ext x3)
  have ca0 := x3.cell CA2.out.1
  have ca1 := x3.cell CA2.out.2
  have X3 := Lib.hid (Ext.trans X2.out x3)
  clear x3 hU
  go_wp2_with fail
  rw [EZ.out]
  clear hmk
  have o0 := ORows.start w3 w3.heap.size n (Nat.le_refl _)
  rw [← onesM_zero] at o0
  obtain ⟨g, hg⟩ : ∃ g, w3.heap.size = g := ⟨_, rfl⟩
  rw [hg] at o0 ⊢
  have O0 := Lib.hid o0
  have x4 : Ext w3 (w3.alloc (.cells (Array.replicate n (.slice none 0 0)) 34)) := (Ext.refl w3).alloc (Nat.le_refl _) _
  have XA := Lib.hid x4
  have HG := Lib.hid hg
  have CA3 := Lib.hid (And.intro ca0 ca1)
  clear x4 o0 hg ca0 ca1
  go_wp2_with fail
  go_loopw [15] (fun v15 wr => ∃ (j : Nat) (vs : List Value), j ≤ n ∧ v15 = .int .i64 (j : Nat) ∧ Hid (ORows wr g g n vs (onesM n j)) ∧ Ext w3 wr) (fun v15 _ => (n - intOf v15).toNat)
  case atStart => exact ⟨0, _, by omega, rfl, O0, XA.out⟩
  case round =>
    obtain ⟨j, vs, hj, rfl, hO, hE⟩ := hrel
    by_cases hlt : j < n
    · have hlt' : (j : Int) < (n : Int) := by omega
      have hgs : g < wr.heap.size := hO.out.row.lt
      obtain ⟨v0, hv0⟩ : ∃ v0, vs[j]? = some v0 := ⟨_, List.getElem?_eq_getElem (by rw [hO.out.vlen]; exact hlt)⟩
      have ao := AppOut.zero1 wr g (by omega) v0
      have hst := hO.out.step (i := j) (l := []) hv0 (by rw [onesM_get hlt, if_neg (Nat.lt_irrefl j)]) ao
      rw [onesM_step hlt, World.setCell_alloc_past _ _ _ _ hgs] at hst
      have cc := hO.out.row.cell (i := j) (v := v0) (by simpa using hv0)
      have uf := hO.out.row.unfrozen j
      have hE2 := (Below.set hE (show w3.heap.size ≤ g by rw [HG.out]; exact Nat.le_refl _) j (.slice (some ⟨wr.heap.size, 0, none⟩) 1 1)).alloc (by rw [setCell_size]; exact hE.size) (.cells #[.int .u8 0] 5)
      have HN := Lib.hid hst
      have hE2 := Lib.hid hE2
      clear hv0
      clear hst ao
      obtain ⟨bz, hbz⟩ : ∃ bz, bz = wr.heap.size := ⟨_, rfl⟩
      clear hbz bz
      go_wp2_with fail
      exact ⟨⟨j + 1, _, by omega, by go_num, HN, hE2.out⟩, by simp [intOf]; omega⟩
    · obtain rfl : j = n := by omega
      clear hlt
      have hD := onesM_sh j
      obtain ⟨b, cap, hv, hgb, c1, c2, u2⟩ := hO.out.rowAt (i := i) (l := [0]) (by rw [onesM_get hin, if_pos hin]) (by decide)
      have c2 := c2 0 0 rfl
      have u2 := u2 0
      have hpk := hO.out.poke hv (by rw [onesM_get hin, if_pos hin]) 0 a1
      have ca0 := hE.cell CA3.out.1
      have ca1 := hE.cell CA3.out.2
      have HP := Lib.hid hpk
      clear hv hD hpk
      go_wp2_with fail
      go_region
      have HPd := Lib.hid HP.out.drew
      have hx : Ext w3 ((wr.setCell ⟨b, 0, none⟩ (bv a1)).drew) := (Below.set hE (show w3.heap.size ≤ b by rw [HG.out]; exact hgb) 0 (bv a1)).drew
      have HX5 := Lib.hid hx
      clear hx
      generalize (wr.setCell ⟨b, 0, none⟩ (bv a1)).drew = w5 at HPd HX5 ⊢
      have hbr := HPd.out.brows
      have HB5 := Lib.hid (show BRows w5 (.slice (some ⟨g, 0, none⟩) j j) (oneAt j i a1) from hbr)
      have HC5 := Lib.hid (HC3.out.ext HX5.out)
      have HU5 := Lib.hid (HU3.out.ext HX5.out)
      have CA5 := Lib.hid (And.intro (HX5.out.cell CA3.out.1) (HX5.out.cell CA3.out.2))
      have X5 := Lib.hid (Ext.trans X3.out HX5.out)
      clear hbr c1 c2 u2 ca0 ca1 HP HPd HX5 hE hO
      go_wp2_with fail
      refine (enc_any cb j q X _ (oneAt j i a1) 1 (by omega) HM.out (oneAt_sh j i a1) _ HC5.out HB5.out).mono ?_; rintro e w6 ⟨u, rfl, hR, x6⟩
      have hbr := hR.brows
      obtain ⟨ua, uc, rfl⟩ := hbr.form
      have hlen : (Mat.mmul X (oneAt j i a1) 1).length = q := (Mat.mmul_sh (b := oneAt j i a1) (m := 1) HM.out.sh).1
      rw [hlen] at hbr ⊢
      have HE6 := Lib.hid hbr
      have HU6 := Lib.hid (HU5.out.ext x6)
      have CA6 := Lib.hid (And.intro (x6.cell CA5.out.1) (x6.cell CA5.out.2))
      have X6 := Lib.hid (Ext.trans X5.out x6)
      have HLN := Lib.hid hlen
      have q9 : ((q : Int) != (q : Int)) = false := by simp
      clear hR hbr hlen x6
      go_wp2_with fail
      go_loopw [18] (fun v18 wr => ∃ r : Nat, r ≤ q ∧ v18 = .int .i64 (r : Nat) ∧ Ext w6 wr) (fun v18 _ => (q - intOf v18).toNat)
      case atStart => exact ⟨0, by omega, rfl, Ext.refl _⟩
      case round =>
        obtain ⟨r, hr, rfl, hE⟩ := hrel
        rename World => wk
        by_cases hltr : r < q
        · have hltr' : (r : Int) < (q : Int) := by omega
          have er := oneAt_enc a1 HM.out.sh hin hltr
          obtain ⟨ab, ao, rab, rao, rac, e1, c1, c2⟩ := (HE6.out.ext hE).entry (i := r) (j := 0) (k := 1) (by rw [HLN.out]; exact hltr) (by rw [er]; rfl) (by omega)
          obtain ⟨xb, xo, rxb, rxo, rxc, e2, c3, c4⟩ := (HU6.out.ext hE).entry (i := r) (j := i) (k := j) (by rw [HM.out.sh.1]; exact hltr) (HM.out.sh.row hltr) hin
          obtain ⟨x0, hx0⟩ : ∃ x0, Mat.en X r i = x0 := ⟨_, rfl⟩
          rw [hx0] at c4 er
          have e3 : Mat.en (Mat.mmul X (oneAt j i a1) 1) r 0 = g8 x0 a1 := by unfold Mat.en; rw [er]; rfl
          rw [e3] at c2
          unfold bv at c2
          rw [g8_toNat, Nat.add_zero] at c2
          have q5 : (((gmul x0.toNat a1.toNat : Nat) : Int) != ((gmul x0.toNat a1.toNat : Nat) : Int)) = false := by simp
          have ca1 := hE.cell CA6.out.2
          have hE' := Lib.hid hE
          subst e2
          subst e1
          clear hx0 e3 er hE
          go_wp2_with fail
          have S0 : (fun w' : World => w'.cell? ⟨ab, ao + r, none⟩ = some (.slice (some ⟨rab, rao, none⟩) 1 rac) ∧ w'.cell? ⟨rab, rao, none⟩ = some (.int .u8 ((gmul x0.toNat a1.toNat : Nat) : Int)) ∧ w'.cell? ⟨xb, xo + r, none⟩ = some (.slice (some ⟨rxb, rxo, none⟩) j rxc) ∧ w'.cell? ⟨rxb, rxo + i, none⟩ = some (bv x0) ∧ w'.cell? ⟨sb, 1, none⟩ = some (bv a1)) wk.drew := ⟨c1, c2, c3, c4, ca1⟩
          go_region_held3 (fun w' : World => w'.cell? ⟨ab, ao + r, none⟩ = some (.slice (some ⟨rab, rao, none⟩) 1 rac) ∧ w'.cell? ⟨rab, rao, none⟩ = some (.int .u8 ((gmul x0.toNat a1.toNat : Nat) : Int)) ∧ w'.cell? ⟨xb, xo + r, none⟩ = some (.slice (some ⟨rxb, rxo, none⟩) j rxc) ∧ w'.cell? ⟨rxb, rxo + i, none⟩ = some (bv x0) ∧ w'.cell? ⟨sb, 1, none⟩ = some (bv a1)) (assumption) (first | (go_at_call 38; refine (rmul_any _ _ (u8lt _) (u8lt _) _).mono ?_; rintro e w5 ⟨rfl, rfl⟩))
          have hX := Lib.hid (Ext.trans hE'.out (Ext.of_drawn wk 1))
          change Exit.then _ _ _ _ (wk.drewN 1)
          generalize wk.drewN 1 = wt at hX ⊢
          clear c1 c2 c3 c4 ca1
          go_wp2_with fail
          exact ⟨⟨r + 1, by omega, by go_num, hX.out⟩, by simp [intOf]; omega⟩
        · obtain rfl : r = q := by omega
          have XF := Lib.hid (Ext.trans X6.out hE)
          clear hltr
          go_wp2_with fail
          go_ret
          exact ⟨rfl, XF.out⟩
end Go.Proofs.Ytdmdcgcmappliaa
