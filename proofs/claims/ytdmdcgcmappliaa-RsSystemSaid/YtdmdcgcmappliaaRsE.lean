/-
  rs: Rebuild.
-/
import Derived.Test.YtdmdcgcmappliaaRsD
namespace Go.Proofs.Ytdmdcgcmappliaa
open Go.RowKit Gf
set_option maxRecDepth 100000
set_option maxHeartbeats 4000000
attribute [local go_sem] min_int2 max_int2

theorem grownBy_set (w : World) (g i : Nat) (v : Value) : w.grownBy (w.setCell ⟨g, i, none⟩ v) (some g) := by
  refine ⟨rfl, rfl, rfl, ?_, fun k hk hne => ?_⟩
  · rw [show (w.setCell ⟨g, i, none⟩ v).heap.size = w.heap.size from by simp]; exact Nat.le_refl _
  · exact Below.heap_setCell w ⟨g, i, none⟩ v k (fun e => hne (by rw [e]))
theorem RowsOwn.set {w : World} {B g n cap : Nat} {ls : List (List UInt8)} (h : RowsOwn w B (.slice (some ⟨g, 0, none⟩) n cap) ls) {u : Value} {l : List UInt8} (hu : Bytes w u l) (ho : OffB (some g) u l) (i : Nat) :
    RowsOwn (w.setCell ⟨g, i, none⟩ u) B (.slice (some ⟨g, 0, none⟩) n cap) (ls.set i l) := by
  obtain ⟨vs, h1, h2, h3⟩ := h
  refine ⟨vs.set i u, h1.set i u, by simp [h2], fun j x k hx hk => ?_⟩
  have hg := grownBy_set w g i u
  rw [List.getElem?_set] at hx hk
  by_cases e : i = j
  · rw [if_pos e] at hx hk
    split at hx
    · rename_i hi
      rw [if_pos (by omega)] at hk
      simp only [Option.some.injEq] at hx hk
      subst hx hk
      exact ⟨hu.grown hg ho, ho⟩
    · cases hx
  · rw [if_neg e] at hx hk
    obtain ⟨k1, k2⟩ := h3 j x k hx hk
    exact ⟨k1.grown hg k2, k2⟩

theorem RowsOwn.open1 {w : World} {B : Nat} {v : Value} {ls : List (List UInt8)} (h : RowsOwn w B v ls) (h0 : 0 < ls.length) : ∃ g c, v = .slice (some ⟨g, 0, none⟩) ls.length c ∧ B ≤ g := by
  obtain ⟨vs, h1, h2, h3⟩ := h
  rcases h1.forms with ⟨_, e⟩ | ⟨g, cap, cur, e, hb, -⟩
  · rw [e] at h2; simp at h2; omega
  · exact ⟨g, cap, by rw [e, h2], hb⟩
theorem RowsOwn.spot {w : World} {B g n cap : Nat} {ls : List (List UInt8)} (h : RowsOwn w B (.slice (some ⟨g, 0, none⟩) n cap) ls) {i : Nat} (hi : i < ls.length) : (∃ u, w.cell? ⟨g, i, none⟩ = some u ∧ ∃ a n c, u = .slice a n c) ∧ w.frozen? ⟨g, i, none⟩ = false := by
  obtain ⟨vs, h1, h2, h3⟩ := h
  have hiv : i < vs.length := by omega
  obtain ⟨a, c, e⟩ := (h3 i vs[i] ls[i] (List.getElem?_eq_getElem hiv) (List.getElem?_eq_getElem hi)).1.slice
  exact ⟨⟨vs[i], h1.parts.2.2.2.2.2.1 i _ (List.getElem?_eq_getElem hiv), _, _, _, e⟩, h1.parts.2.2.2.2.2.2 i⟩
theorem idx_mem {S : Mat.M} {i : Nat} : i ∈ idx S ↔ i < S.length ∧ 0 < (S.getD i []).length := by
  unfold idx
  rw [List.mem_filter, List.mem_range]
  simp only [decide_eq_true_eq]
/-- What comes out: what is there, and what is made for the rest. -/
def over (E S : Mat.M) (nn : Nat) : Mat.M := (List.range nn).map fun i => if 0 < (S.getD i []).length then S.getD i [] else E.getD i []

theorem reb_any (cb k nn : Nat) (X Z : Mat.M) (vs : Value) (S : Mat.M) (n : Nat) (hn : n ≤ 70000) (hn0 : 0 < n) (hX : CodeMat X k nn) (hS : S.length = nn) (hSn : ∀ r ∈ S, r.length = 0 ∨ r.length = n) (hk : k ≤ (idx S).length) (hZ : Mat.minv k (Mat.pick X ((idx S).take k)) = some Z) (w : World) (h : CodeAt w cb k nn X) (hV : BRows w vs S) :
    Calls Try.prog 37 #[.pointer (some ⟨cb, 0, none⟩), vs] w fun e w' => ∃ u, e = .returned (.tuple #[u, .int .i64 0]) ∧ BRows w' u (over (Mat.mmul X (Mat.mmul Z (Mat.pick S ((idx S).take k)) n) n) S nn) ∧ Ext w w' := by
  obtain ⟨va, vc, rfl⟩ := hV.form
  have k1 := hX.k1
  have kn := hX.kn
  have n2 := hX.n255
  rw [hS] at hV ⊢
  have HX := Lib.hid hX
  have HC := Lib.hid h
  have HV := Lib.hid hV
  have HS := Lib.hid (And.intro hS (And.intro hSn (And.intro hk hZ)))
  have hk0 : ((k : Int) == 0) = false := beq_eq_false_iff_ne.2 (by omega)
  have hnn : ((nn : Int) != (nn : Int)) = false := by simp
  obtain ⟨xg, t, c0, c1, -, -, -, -⟩ := h.cells
  clear h hV hX hS hSn hk hZ
  go_enter Try.func37, Try.ntmps37
  go_wp2_with fail
  refine (rsK_any cb k nn X _ HC.out).mono ?_; rintro e w' ⟨rfl, rfl⟩
  go_wp2_with fail
  refine (there_yes _ S n (by rw [HS.out.1]; omega) HS.out.2.1 _ HV.out).mono ?_; rintro e w1 ⟨la, lc, m, Lx, hL, rfl, hI, x1⟩
  have hLx : Lx = idx S := hL.out.1
  have hmn : m = n := by
    rw [hL.out.2, if_neg]
    intro e
    have := HS.out.2.2.1
    rw [← hLx, e] at this
    simp at this
    omega
  subst hmn
  have hkl : k ≤ Lx.length := by rw [hLx]; exact HS.out.2.2.1
  have HLx := Lib.hid hLx
  have HI := Lib.hid hI
  have c0 := Ext.cell x1 c0
  have c1 := Ext.cell x1 c1
  have X1 := Lib.hid x1
  have hm0 : ((m : Int) == 0) = false := beq_eq_false_iff_ne.2 (by omega)
  have hkl' : ¬ (Lx.length : Int) < (k : Int) := by omega
  have hkl2 : (k : Int) ≤ (Lx.length : Int) := by omega
  have hkz : 0 ≤ (k : Int) := by omega
  have hcap : Lx.length ≤ lc := by
    obtain ⟨a', c', e, h1, -, -⟩ := id hI
    simp only [Value.slice.injEq] at e
    rw [e.2.2]
    have := h1
    simpa using this
  have hkc : (k : Int) ≤ (lc : Int) := by omega
  have hLb : Lx.length ≤ 255 := by
    have h1 : (idx S).length ≤ S.length := by
      unfold idx
      exact Nat.le_trans (List.length_filter_le _ _) (by simp)
    rw [hLx]; have := HS.out.1; omega
  clear hL hLx hI x1 hcap
  go_wp2_with fail
  have PL : Hid ((Lx.take k).length = k ∧ (∀ i ∈ Lx.take k, i < nn) ∧ (∀ i ∈ Lx.take k, (S.getD i []).length = m) ∧ Mat.minv k (Mat.pick X (Lx.take k)) = some Z) := Lib.hid ⟨by rw [List.length_take]; omega, fun i hi => by
      have := (idx_mem.1 (HLx.out ▸ List.mem_of_mem_take hi)).1
      rw [HS.out.1] at this; exact this, fun i hi => by
      obtain ⟨h1, h2⟩ := idx_mem.1 (HLx.out ▸ List.mem_of_mem_take hi)
      rcases HS.out.2.1 (S.getD i []) (by rw [Mat.getD_lt h1 []]; exact List.getElem_mem _) with h | h
      · omega
      · exact h, by rw [HLx.out]; exact HS.out.2.2.2⟩
  have HI2 : Hid (Ints w1 (.slice la k lc) ((Lx.take k).map Int.ofNat)) := Lib.hid (by
    have := HI.out.take k hkl
    rw [show (ivs (Lx.map Int.ofNat)).take k = ivs ((Lx.take k).map Int.ofNat) from by simp [List.map_take]] at this
    exact this)
  refine (data_any cb k nn X Z _ _ S (Lx.take k) m hn HX.out HS.out.1 PL.out.1 PL.out.2.1 PL.out.2.2.1 PL.out.2.2.2 _ (HC.out.ext X1.out) (HV.out.ext X1.out) HI2.out).mono ?_; rintro e w2 ⟨ud, rfl, hD, x2⟩
  have PX := Mat.pick_sh HX.out.sh PL.out.2.1
  rw [PL.out.1] at PX
  have SD := Lib.hid (Mat.mmul_sh (b := Mat.pick S (Lx.take k)) (m := m) (Mat.minv_spec PX PL.out.2.2.2).1)
  have HD := Lib.hid hD.brows
  have HI3 := Lib.hid (HI.out.ext x2)
  have X2 := Lib.hid (Ext.trans X1.out x2)
  clear hD x2 PX c0 c1 HI2
  go_wp2_with fail
  refine (enc_any cb k nn X _ _ m hn HX.out SD.out _ (HC.out.ext X2.out) HD.out).mono ?_; rintro e w3 ⟨u, rfl, hU, x3⟩
  obtain ⟨E, hE⟩ : ∃ E, Mat.mmul X (Mat.mmul Z (Mat.pick S (Lx.take k)) m) m = E := ⟨_, rfl⟩
  rw [hE] at hU
  have hEl : E.length = nn := by rw [← hE, (Mat.mmul_sh (b := Mat.mmul Z (Mat.pick S (Lx.take k)) m) (m := m) HX.out.sh).1]
  obtain ⟨g, oc, rfl, hg⟩ := hU.open1 (by omega)
  rw [hEl] at hU ⊢
  have HE := Lib.hid (And.intro hE hEl)
  have HU := Lib.hid hU
  have X3 := Lib.hid x3
  have HG := Lib.hid hg
  clear hU x3 hE hEl hg HI
  go_wp2_with fail
  go_loopw [77] (fun v77 wr => ∃ (i : Nat) (ks : Mat.M), i ≤ Lx.length ∧ v77 = .int .i64 (i : Nat) ∧ Hid (RowsOwn wr w2.heap.size (.slice (some ⟨g, 0, none⟩) nn oc) ks ∧ ks.length = nn ∧ ∀ p, p < nn → ks[p]? = some (if p ∈ Lx.take i then S.getD p [] else E.getD p [])) ∧ Ext w2 wr) (fun v77 _ => (Lx.length - intOf v77).toNat)
  case atStart => exact ⟨0, E, by omega, rfl, Lib.hid ⟨HU.out, HE.out.2, fun p hp => by rw [List.take_zero, if_neg (by simp), List.getElem?_eq_getElem (by rw [HE.out.2]; exact hp), Mat.getD_lt]⟩, X3.out⟩
  case round =>
    obtain ⟨i, ks, hi, rfl, hR, hB⟩ := hrel
    by_cases hlt : i < Lx.length
    · have hlt' : (i : Int) < (Lx.length : Int) := by omega
      obtain ⟨z, hz⟩ : ∃ z, Lx[i]? = some z := ⟨_, List.getElem?_eq_getElem hlt⟩
      have hzm := idx_mem.1 (HLx.out ▸ List.mem_of_getElem? hz)
      have hzn : z < nn := by have := hzm.1; rw [HS.out.1] at this; exact this
      have hzl : (S.getD z []).length = m := by
        rcases HS.out.2.1 (S.getD z []) (by rw [Mat.getD_lt hzm.1 []]; exact List.getElem_mem _) with h | h
        · have := hzm.2; omega
        · exact h
      have hzc : (ivs (Lx.map Int.ofNat))[i]? = some (.int .i64 (z : Int)) := by simp [hz]
      obtain ⟨lb, lo, rfl, d0⟩ := (HI3.out.ext hB).at hzc
      have hz1 := hzm.1
      have hSz : S[z]? = some (S.getD z []) := by rw [Mat.getD_lt hz1 [], List.getElem?_eq_getElem hz1]
      obtain ⟨sb, so, sa, sc, rfl, d1, hb⟩ := (HV.out.ext (Ext.trans X2.out hB)).at hSz
      rw [hzl] at d1 hb
      obtain ⟨row, hrow⟩ : ∃ row, S.getD z [] = row := ⟨_, rfl⟩
      rw [hrow] at hb hzl
      have HB := Lib.hid hb
      have Z1 := Lib.hid (And.intro hz (And.intro hzn (And.intro hzl hrow)))
      have q1 : (z : Int) < (nn : Int) := by omega
      have q3 : 0 ≤ (z : Int) := by omega
      clear hb hz hzm hzn hzl hzc hSz hrow hz1
      have cl : ∀ w', Ext wr w' → Calls Try.prog 55 #[.slice sa m sc] w' fun e w5 => ∃ ua uc u0 a0 n0 c0, e = .returned (.slice ua m uc) ∧ w5.cell? ⟨g, z, none⟩ = some u0 ∧ u0 = .slice a0 n0 c0 ∧ w5.frozen? ⟨g, z, none⟩ = false ∧ Hid (RowsOwn (w5.setCell ⟨g, z, none⟩ (.slice ua m uc)) w2.heap.size (.slice (some ⟨g, 0, none⟩) nn oc) (ks.set z row) ∧ Ext w2 (w5.setCell ⟨g, z, none⟩ (.slice ua m uc))) := by
        intro w' e
        refine (bclone_own _ row (by rw [Z1.out.2.2.1]; omega) _ (HB.out.ext e)).mono ?_
        rintro e' w5 ⟨u, rfl, hU, x5⟩
        obtain ⟨ua, uc, rfl⟩ := Bytes.slice hU.cells
        rw [Z1.out.2.2.1] at hU ⊢
        have hR5 := hR.out.1.ext (Ext.trans e x5)
        obtain ⟨⟨u0, hu0, a0, n0, c0, e0⟩, hf⟩ := hR5.spot (i := z) (by rw [hR.out.2.1]; exact Z1.out.2.1)
        refine ⟨ua, uc, u0, a0, n0, c0, rfl, hu0, e0, hf, Lib.hid ⟨hR5.set hU.cells (OffB.fresh hU (fun q hq => ?_)) z, Below.set (Ext.trans hB (Ext.trans e x5)) HG.out z _⟩⟩
        have : g = q := Option.some.inj hq
        subst this
        exact Nat.lt_of_lt_of_le (hR.out.1.block g rfl) e.size
      have CL := Lib.hid cl
      clear cl
      go_wp2_with fail
      refine (CL.out _ (Ext.refl _)).mono ?_; rintro e w5 ⟨ua, uc, u0, a0, n0, c0, rfl, p1, rfl, p2, hst⟩
      · clear d0 d1 CL
        go_wp2_with fail
        refine ⟨⟨i + 1, ks.set z row, by omega, by go_num, Lib.hid ⟨hst.out.1, by rw [List.length_set]; exact hR.out.2.1, fun p hp => ?_⟩, hst.out.2⟩, by simp [intOf]; omega⟩
        rw [List.getElem?_set, List.take_add_one, Z1.out.1]
        by_cases e : z = p
        · rw [if_pos e, if_pos (by rw [hR.out.2.1]; exact Z1.out.2.1), if_pos (by rw [e]; simp), ← Z1.out.2.2.2, e]
        · rw [if_neg e, hR.out.2.2 p hp]
          have : p ∈ Lx.take i ++ (some z).toList ↔ p ∈ Lx.take i := by
            simp only [Option.toList, List.mem_append, List.mem_singleton]
            exact ⟨fun h => h.resolve_right (fun h => e h.symm), .inl⟩
          by_cases h2 : p ∈ Lx.take i
          · rw [if_pos h2, if_pos (this.2 h2)]
          · rw [if_neg h2, if_neg (fun h => h2 (this.1 h))]
    · obtain rfl : i = Lx.length := by omega
      have hov : ks = over E S nn := by
        apply List.ext_getElem?
        intro p
        by_cases hp : p < nn
        · rw [hR.out.2.2 p hp, List.take_length, HLx.out]
          unfold over
          rw [List.getElem?_map, List.getElem?_range hp]
          have hm := idx_mem (S := S) (i := p)
          rw [HS.out.1] at hm
          by_cases h2 : 0 < (S.getD p []).length
          · rw [if_pos (hm.2 ⟨hp, h2⟩)]
            simp only [Option.map_some]
            rw [if_pos h2]
          · rw [if_neg (fun h => h2 (hm.1 h).2)]
            simp only [Option.map_some]
            rw [if_neg h2]
        · rw [List.getElem?_eq_none (by rw [hR.out.2.1]; omega), List.getElem?_eq_none (by unfold over; simp; omega)]
      have hN := hR.out.1.brows
      rw [hov] at hN
      have HN := Lib.hid hN
      have HF := Lib.hid (Ext.trans X2.out hB)
      have HEQ := Lib.hid (show E = Mat.mmul X (Mat.mmul Z (Mat.pick S ((idx S).take k)) m) m from by rw [← HLx.out]; exact HE.out.1.symm)
      clear hN hlt hov
      go_wp2_with fail
      go_ret2
      exact ⟨_, rfl, HEQ.out ▸ HN.out, HF.out⟩
end Go.Proofs.Ytdmdcgcmappliaa
