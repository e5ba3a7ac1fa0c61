/-
  RsTells.
-/
import Derived.Test.YtdmdcgcmappliaaRsL
import Derived.Test.YtdmdcgcmappliaaRefA
namespace Go.Proofs.Ytdmdcgcmappliaa
open Go.RowKit Gf
set_option maxRecDepth 100000
set_option maxHeartbeats 4000000
attribute [local go_sem] min_int2 max_int2 bstr_toList

theorem xor_byte (y : UInt8) (p : Nat) : ∃ t : UInt8, t ≠ 0 ∧ bits BinOp.xor IntKind.u8 (y.toNat : Int) (1 + (p : Int) / 256 % 255) = ((y ^^^ t).toNat : Int) := by
  have hb : 1 + p / 256 % 255 < 256 := by omega
  refine ⟨UInt8.ofNat (1 + p / 256 % 255), fun e => ?_, ?_⟩
  · have := congrArg UInt8.toNat e
    rw [UInt8.toNat_ofNat', Nat.mod_eq_of_lt hb] at this
    simp at this
  · have h1 : (1 + (p : Int) / 256 % 255) = ((1 + p / 256 % 255 : Nat) : Int) := by omega
    have hy := y.toNat_lt
    rw [h1, UInt8.toNat_xor, UInt8.toNat_ofNat', Nat.mod_eq_of_lt hb]
    exact u8_xor_nat _ _ (by omega) hb
theorem tells_pure {X a E : Mat.M} {k m nn n z : Nat} {l : List UInt8} (hkm : k + m = nn) (hm : 1 ≤ m) (hn : 0 < n) (hXs : Mat.sys k m = some X) (hX : CodeMat X k nn) (ha : Mat.Sh a k n) (hE : Mat.mmul X a n = E) (hz : z < nn) (hl : l.length = n) :
    (Mat.mmul X ((E.set z l).take k) n = E.set z l → E.set z l = E) ∧ ∃ Z, k ≤ (idx (E.set z [])).length ∧ Mat.minv k (Mat.pick X ((idx (E.set z [])).take k)) = some Z ∧ over (Mat.mmul X (Mat.mmul Z (Mat.pick (E.set z []) ((idx (E.set z [])).take k)) n) n) (E.set z []) nn = E := by
  have hEs : Mat.Sh E nn n := by rw [← hE]; exact Mat.mmul_sh hX.sh
  have hEl := hEs.1
  have e0 : E.set z [] = keepM E (fun p => if p = z then false else true) nn nn := by
    rw [← keepM_drop E (fun _ => true) hz, keepM_all E hEl]
  have hrow : ∀ p, p < nn → (E.getD p []).length = n := fun p hp => hEs.row hp
  have hidx := keepM_idx E (fun p => if p = z then false else true) hn hrow
  have hc := cnt_drop (fun _ => true) z rfl nn
  rw [if_pos hz, cnt_all] at hc
  have hlen : (idx (E.set z [])).length + 1 = nn := by rw [e0, hidx]; exact hc
  have hsl : (E.set z []).length = nn := by rw [List.length_set]; exact hEl
  have hk : k ≤ (idx (E.set z [])).length := by omega
  obtain ⟨Z, hZ⟩ := Mat.sys_pick (n := k) (m := m) (by have := hX.n255; omega) hXs ((idx (E.set z [])).take k) (fun p hp => by
    have := (idx_mem.1 (List.mem_of_mem_take hp)).1
    omega) (by rw [List.length_take]; omega) (List.Sublist.nodup (List.take_sublist _ _) (idx_nodup _))
  have hget : ∀ i, i < nn → ((E.set z []).getD i []).length = 0 ∨ (i ≠ z ∧ (E.set z []).getD i [] = E.getD i []) := fun i hi => by
    rw [List.getD_eq_getElem?_getD, List.getElem?_set]
    by_cases e : z = i
    · rw [if_pos e, if_pos (by omega)]; exact .inl rfl
    · rw [if_neg e]; exact .inr ⟨fun h => e h.symm, by rw [List.getD_eq_getElem?_getD]⟩
  have h1 := over_back (X := X) (Z := Z) (S := E.set z []) (D := a) (n := n) hX ha hsl (fun i hi => (hget i hi).imp id (fun h => by rw [hE]; exact h.2)) hk hZ
  rw [hE] at h1
  refine ⟨fun h => ?_, Z, hk, hZ, h1⟩
  have hD : Mat.Sh ((E.set z l).take k) k n := ⟨by rw [List.length_take, List.length_set]; have := hX.kn; omega, fun r hr => by
    rcases List.mem_or_eq_of_mem_set (List.mem_of_mem_take hr) with h | h
    · exact hEs.2 r h
    · rw [h]; exact hl⟩
  have h2 := over_back (X := X) (Z := Z) (S := E.set z []) (D := (E.set z l).take k) (n := n) hX hD hsl (fun i hi => (hget i hi).imp id (fun hh => by
    rw [h, hh.2, List.getD_eq_getElem?_getD, List.getD_eq_getElem?_getD, List.getElem?_set, if_neg (fun e => hh.1 e.symm)])) hk hZ
  rw [h, h1] at h2
  exact h2.symm
theorem rstells_any (w : World) (va : Value) (a : Mat.M) (ha : BRows w va a) (la : a.length ≤ 140737488351232) (ra : ∀ l ∈ a, l.length ≤ 140737488351232) (x : UInt8) (p0 : Nat) (hp0 : p0 < 65536) (p1 : Nat) (hp1 : p1 < 65536) :
    Calls Try.prog 15 #[va, bv x, .agg #[.int .u16 p0, .int .u16 p1]] w fun e w' => e = .returned (.bool true) ∧ Ext w w' := by
  obtain ⟨aa, ac, rfl⟩ := ha.form
  have HA := Lib.hid ha
  have HL := Lib.hid (And.intro ra la)
  clear ha la ra
  go_enter Try.func15, Try.ntmps15
  go_wp2_with fail
  have xw : Ext w (w.alloc (.cells #[.int .u16 p0, .int .u16 p1] 74)) := (Ext.refl w).alloc (Nat.le_refl _) _
  have ca0 : (w.alloc (.cells #[.int .u16 p0, .int .u16 p1] 74)).cell? ⟨w.heap.size, 0, none⟩ = some (.int .u16 p0) := (Row.new w 74 _).cell (by rfl)
  have ca1 : (w.alloc (.cells #[.int .u16 p0, .int .u16 p1] 74)).cell? ⟨w.heap.size, 1, none⟩ = some (.int .u16 p1) := (Row.new w 74 _).cell (by rfl)
  generalize w.alloc (.cells #[.int .u16 p0, .int .u16 p1] 74) = w0 at xw ca0 ca1 ⊢
  obtain ⟨sb, hsb⟩ : ∃ sb, w.heap.size = sb := ⟨_, rfl⟩
  rw [hsb] at ca0 ca1 ⊢
  have CA := Lib.hid (And.intro ca0 ca1)
  have X0 := Lib.hid xw
  clear hsb ca0 ca1 xw
  refine (rsawake_any _).mono ?_; rintro e w1 ⟨rfl, x1⟩
  have HA1 := Lib.hid (HA.out.ext (Ext.trans X0.out x1))
  have X1 := Lib.hid (Ext.trans X0.out x1)
  have CA1 := Lib.hid (And.intro (x1.cell CA.out.1) (x1.cell CA.out.2))
  clear x1 HA X0
  go_wp2_with fail
  refine (small3_any _ a HL.out.1 HL.out.2 _ HA1.out).mono ?_; rintro e w' ⟨d1, rfl, S1, rfl⟩
  cases d1
  case false =>
    go_wp2_with fail
    go_ret
    exact ⟨rfl, X1.out⟩
  have SA := Lib.hid (S1.out rfl)
  clear S1
  by_cases h0 : a.length = 0
  case pos =>
    have q0 : ((a.length : Int) == 0) = true := beq_iff_eq.2 (by omega)
    clear h0
    go_wp2_with fail
    go_ret
    exact ⟨rfl, X1.out⟩
  have q0 : ((a.length : Int) == 0) = false := beq_eq_false_iff_ne.2 (by omega)
  by_cases h30 : 30 < a.length
  case pos =>
    have q1 : (30 : Int) < (a.length : Int) := by omega
    clear h0 h30
    go_wp2_with fail
    go_ret
    exact ⟨rfl, X1.out⟩
  have q1 : (a.length : Int) ≤ 30 := by omega
  obtain ⟨k, hk⟩ : ∃ k, a.length = k := ⟨_, rfl⟩
  obtain ⟨n0, hn0⟩ : ∃ n0, (a.getD 0 []).length = n0 := ⟨_, rfl⟩
  have h0a : 0 < a.length := by omega
  obtain ⟨ab, ao, ra0, rc0, rfl, c0, -⟩ := HA1.out.at (List.getElem?_eq_getElem h0a)
  rw [Nat.add_zero, ← Mat.getD_lt h0a [], hn0] at c0
  rw [hk] at HA1 q0 q1 h0 h30 ⊢
  have HK := Lib.hid hk
  have N0 := Lib.hid hn0
  have n0b : n0 ≤ 4000 := by
    rw [← hn0, Mat.getD_lt h0a []]
    exact SA.out.2 _ (List.getElem_mem _)
  obtain ⟨m, hm⟩ : ∃ m : Nat, 1 + x.toNat % 10 = m := ⟨_, rfl⟩
  have f1 := Lib.hid (wrap_mod x 10 m (by omega) (by omega) hm)
  have m1 : 1 ≤ m := by omega
  have m2 : m ≤ 10 := by omega
  have k1 : 1 ≤ k := by omega
  have k2 : k ≤ 30 := by omega
  clear hk h0 h30 hm hn0 h0a
  by_cases hn : n0 = 0
  case pos =>
    have q5 : ((n0 : Int) == 0) = true := beq_iff_eq.2 (by omega)
    clear hn
    go_wp2_with fail
    go_ret
    exact ⟨rfl, X1.out⟩
  have q5 : ((n0 : Int) == 0) = false := beq_eq_false_iff_ne.2 (by omega)
  have n0p : 0 < n0 := by omega
  clear hn
  go_wp2_with fail
  rw [show Go.RowKit.wrap64 (1 + (Go.RowKit.wrap64 (x.toNat : Int)).tmod 10) = (m : Int) from f1.out]
  clear f1
  refine (rsnew_any k m k1 m1 (by omega) _).mono ?_; rintro e w2 ⟨cb, X, hX, rfl, hC, x2⟩
  have HX := Lib.hid (CodeMat.of_sys k1 m1 (by omega) hX)
  have HXs := Lib.hid hX
  have HC := Lib.hid hC
  have HA2 := Lib.hid (HA1.out.ext x2)
  have X2 := Lib.hid (Ext.trans X1.out x2)
  have CA2 := Lib.hid (And.intro (x2.cell CA1.out.1) (x2.cell CA1.out.2))
  clear x2 hC hX HA1 c0 q0 q1 q5
  go_wp2_with fail
  by_cases hev : ∀ r ∈ a, r.length = n0
  case neg =>
    have HEV := Lib.hid hev
    clear hev
    refine (enc_no cb k (k + m) X _ a k1 (by rw [HK.out]; omega) (fun h => HEV.out (by rw [← N0.out]; exact h.2)) _ HC.out HA2.out).mono ?_; rintro e w' ⟨rfl, rfl⟩
    go_wp2_with fail
    go_ret
    exact ⟨rfl, X2.out⟩
  have SAh := Lib.hid (show Mat.Sh a k n0 from ⟨HK.out, hev⟩)
  clear hev
  refine (enc_any cb k (k + m) X _ a n0 (by omega) HX.out SAh.out _ HC.out HA2.out).mono ?_; rintro e w4 ⟨ea, rfl, hEA, x4⟩
  obtain ⟨nn, hnn⟩ : ∃ nn, k + m = nn := ⟨_, rfl⟩
  have HXn := HX.out
  have HC4 := HC.out.ext x4
  rw [hnn] at HXn HC4
  have l1 : (Mat.mmul X a n0).length = nn := (Mat.mmul_sh (b := a) (m := n0) HXn.sh).1
  obtain ⟨E, hE⟩ : ∃ E, Mat.mmul X a n0 = E := ⟨_, rfl⟩
  rw [hE] at hEA l1
  obtain ⟨g, gc, rfl, -⟩ := hEA.open1 (by rw [l1]; omega)
  rw [l1] at hEA ⊢
  have EB := Lib.hid hEA.brows
  have XH := Lib.hid HXn
  have HCH := Lib.hid HC4
  have HE := Lib.hid (And.intro hE (And.intro hnn l1))
  have HA4 := Lib.hid (HA2.out.ext x4)
  have X4 := Lib.hid (Ext.trans X2.out x4)
  have ca0 := x4.cell CA2.out.1
  have ca1 := x4.cell CA2.out.2
  have nnb : nn ≤ 40 := by omega
  have nn1 : 1 ≤ nn := by omega
  have hkm : (k : Int) + (m : Int) = (nn : Int) := by omega
  have q9 : ((nn : Int) != (nn : Int)) = false := by simp
  clear HXn HC4 hE hEA l1 hnn x4 HX HC HA2
  have g0 := SAh.out.get (show 0 < k by omega)
  obtain ⟨ra0, rc0, c0, -⟩ := HA4.out.rowAt g0.1
  rw [Nat.add_zero, g0.2] at c0
  clear g0
  obtain ⟨z, hz⟩ : ∃ z, p0 % nn = z := ⟨_, rfl⟩
  obtain ⟨j, hj⟩ : ∃ j, p1 % n0 = j := ⟨_, rfl⟩
  have ez : (p0 : Int) % (nn : Int) = (z : Int) := by omega
  have ej : (p1 : Int) % (n0 : Int) = (j : Int) := by omega
  have hzn : z < nn := by rw [← hz]; exact Nat.mod_lt _ nn1
  have hjn : j < n0 := by rw [← hj]; exact Nat.mod_lt _ n0p
  clear hz hj
  go_wp2_with fail
  go_quiet (fail)
  have XD := Lib.hid (Ext.of_drawn w4 nq)
  generalize w4.drewN nq = w5 at XD ⊢
  have X5 := Lib.hid (Ext.trans X4.out XD.out)
  have EB5 := Lib.hid (EB.out.ext XD.out)
  have HC5 := Lib.hid (HCH.out.ext XD.out)
  have HA5 := Lib.hid (HA4.out.ext XD.out)
  have CA5 := Lib.hid (And.intro (XD.out.cell ca0) (XD.out.cell ca1))
  clear c0 ca0 ca1
  go_wp2_with fail
  refine (rcopyA_any _ E (by rw [HE.out.2.2]; omega) (fun r hr => by
    have := (Mat.mmul_sh (b := a) (m := n0) XH.out.sh).2 r (by rw [HE.out.1]; exact hr)
    omega) _ EB5.out).mono ?_; rintro e w6 ⟨u, rfl, hU, x6⟩
  obtain ⟨g2, gc2, rfl, hg2, -, -⟩ := hU.open1 (by rw [HE.out.2.2]; omega)
  rw [HE.out.2.2] at hU ⊢
  have hEs : Mat.Sh E nn n0 := by rw [← HE.out.1]; exact Mat.mmul_sh (b := a) (m := n0) XH.out.sh
  have hEz := hEs.get hzn
  obtain ⟨rq, rqc, c1, -⟩ := hU.at hEz.1
  rw [hEz.2] at c1
  obtain ⟨y, hy⟩ : ∃ y, (E.getD z [])[j]'(by rw [hEz.2]; exact hjn) = y := ⟨_, rfl⟩
  have g0 := SAh.out.get (show 0 < k by omega)
  obtain ⟨ra0, rc0, c0, -⟩ := (HA5.out.ext x6).rowAt g0.1
  rw [Nat.add_zero, g0.2] at c0
  have q3 : ((n0 : Int) != (n0 : Int)) = false := by simp
  have hd0 := x6.cell CA5.out.1
  have hd1 := x6.cell CA5.out.2
  have hz0 : 0 ≤ (z : Int) := by omega
  have hz1 : (z : Int) < (nn : Int) := by omega
  have hj0 : 0 ≤ (j : Int) := by omega
  have hj1 : (j : Int) < (n0 : Int) := by omega
  go_wp2_with fail
  go_quiet (fail)
  have XD2 := Lib.hid (Ext.of_drawn w6 nq)
  have hU2 := hU.ext XD2.out
  generalize w6.drewN nq = w7 at XD2 hU2 ⊢
  obtain ⟨rb, rc, c1, rb1, -, rb2, rb3, rb4, rb5⟩ := hU2.row hEz.1 (by rw [hEz.2]; exact n0p)
  have c2 := rb3 j _ (List.getElem?_eq_getElem (by rw [hEz.2]; exact hjn))
  have u2 := rb4 j
  rw [hEz.2] at c1
  rw [hy] at c2
  have RB := Lib.hid (rb5 j)
  clear rb3 rb4 rb5
  have ca0 := XD2.out.cell hd0
  have ca1 := XD2.out.cell hd1
  clear c0 hd0 hd1
  go_wp2_with fail
  go_region
  obtain ⟨t, ht0, ht⟩ := xor_byte y p1
  rw [ht]
  obtain ⟨lz, hlz⟩ : ∃ lz, E.getD z [] = lz := ⟨_, rfl⟩
  rw [hlz] at RB hEz
  have hyj : lz[j]? = some y := by
    have := List.getElem?_eq_getElem (l := E.getD z []) (i := j) (by rw [hlz, hEz.2]; exact hjn)
    rw [hy, hlz] at this
    exact this
  obtain ⟨hp1, Z, hp2, hp3, hp4⟩ := tells_pure (l := lz.set j (y ^^^ t)) HE.out.2.1 m1 n0p HXs.out XH.out SAh.out HE.out.1 hzn (by rw [List.length_set]; exact hEz.2)
  have hne : E.set z (lz.set j (y ^^^ t)) ≠ E := fun e => by
    have h1 : (E.set z (lz.set j (y ^^^ t)))[z]? = some lz := by rw [e]; exact hEz.1
    rw [List.getElem?_set, if_pos rfl, if_pos (by rw [HE.out.2.2]; exact hzn)] at h1
    have h2 : (lz.set j (y ^^^ t))[j]? = some y := by rw [Option.some.inj h1]; exact hyj
    rw [List.getElem?_set, if_pos rfl, if_pos (by rw [hEz.2]; exact hjn)] at h2
    have h3 := Option.some.inj h2
    refine ht0 ?_
    have h4 : y ^^^ (y ^^^ t) = y ^^^ y := by rw [h3]
    rw [← UInt8.xor_assoc, UInt8.xor_self, UInt8.zero_xor] at h4
    exact h4
  have X58 := Lib.hid (Ext.trans (Below.set (Ext.trans x6 XD2.out) rb1 j (bv (y ^^^ t))) (Ext.of_drawn _ 1))
  have HU8 := (RB.out (y ^^^ t)).ext (Ext.of_drawn _ 1)
  have hSS : Mat.Sh (E.set z (lz.set j (y ^^^ t))) nn n0 := ⟨by rw [List.length_set]; exact HE.out.2.2, fun r hr => by
    rcases List.mem_or_eq_of_mem_set hr with h | h
    · exact hEs.2 r h
    · rw [h, List.length_set]; exact hEz.2⟩
  change Exit.then _ _ _ _ ((w7.setCell ⟨rb, j, none⟩ (bv (y ^^^ t))).drewN 1)
  generalize (w7.setCell ⟨rb, j, none⟩ (bv (y ^^^ t))).drewN 1 = w8 at X58 HU8 ⊢
  have HU8' := Lib.hid HU8
  have HF := Lib.hid (And.intro hp1 (And.intro hne (And.intro hSS (And.intro hp2 (And.intro hp3 hp4)))))
  have HC8 := Lib.hid (HC5.out.ext X58.out)
  have EB8 := Lib.hid (EB5.out.ext X58.out)
  have X8 := Lib.hid (Ext.trans X5.out X58.out)
  have hg2' := Nat.le_trans X5.out.size hg2
  clear hU hU2 c1 c2 u2 ca0 ca1 hlz hyj hp1 hp2 hp3 hp4 hne hSS ht ht0 hEz HU8 hEs RB x6
  go_wp2_with fail
  refine (ver_any cb k nn X _ (E.set z (lz.set j (y ^^^ t))) n0 (by omega) false XH.out HF.out.2.2.1 ⟨(fun h => Bool.noConfusion h), fun h => absurd (HF.out.1 h) HF.out.2.1⟩ _ HC8.out HU8'.out.brows).mono ?_; rintro e w9 ⟨rfl, x9⟩
  have hU9 := HU8'.out.ext x9
  obtain ⟨sa, sc, c1, -⟩ := hU9.at (i := z) (List.getElem?_eq_getElem (by rw [List.length_set, HE.out.2.2]; exact hzn))
  obtain ⟨sn, hsn⟩ : ∃ sn, ((E.set z (lz.set j (y ^^^ t)))[z]'(by rw [List.length_set, HE.out.2.2]; exact hzn)).length = sn := ⟨_, rfl⟩
  rw [hsn] at c1
  obtain ⟨g2', gc2', e1, -, -, u9⟩ := hU9.open1 (by rw [List.length_set, HE.out.2.2]; omega)
  have u9z : w9.frozen? ⟨g2, z, none⟩ = false := by
    simp only [Value.slice.injEq, Option.some.injEq, Addr.mk.injEq, and_true] at e1
    rw [e1.1]; exact u9 z
  have hUd := hU9.drop z
  rw [List.set_set] at hUd
  have HUD := Lib.hid hUd
  have x59 := Ext.trans X58.out x9
  have X5A := Lib.hid (Below.set x59 hg2 z (.slice none 0 0))
  clear hsn e1 u9 hU9 hUd x59 x9
  go_wp2_with fail
  generalize w9.setCell ⟨g2, z, none⟩ (.slice none 0 0) = wa at HUD X5A ⊢
  refine (reb_any cb k nn X Z _ (E.set z []) n0 (by omega) n0p XH.out (by rw [List.length_set]; exact HE.out.2.2) (fun r hr => by
    rcases List.mem_or_eq_of_mem_set hr with h | h
    · right
      have := (Mat.mmul_sh (b := a) (m := n0) XH.out.sh).2 r (by rw [HE.out.1]; exact h)
      exact this
    · left; rw [h]; rfl) HF.out.2.2.2.1 HF.out.2.2.2.2.1 _ (HC5.out.ext X5A.out) HUD.out.brows).mono ?_; rintro e wb ⟨u, rfl, hV, xb⟩
  rw [HF.out.2.2.2.2.2] at hV
  obtain ⟨va, vc, rfl⟩ := hV.form
  rw [HE.out.2.2] at hV ⊢
  have VB := Lib.hid hV
  have EBb := Lib.hid (EB5.out.ext (Ext.trans X5A.out xb))
  have XB := Lib.hid (Ext.trans X5.out (Ext.trans X5A.out xb))
  clear hV xb c1 u9z
  go_wp2_with fail
  refine (rsame_eq2 _ _ E (by rw [HE.out.2.2]; unfold maxLen; omega) _ VB.out EBb.out).mono ?_; rintro e wc ⟨rfl, xc⟩
  have XC := Lib.hid (Ext.trans XB.out xc)
  clear xc
  go_wp2_with fail
  go_ret
  exact ⟨rfl, XC.out⟩
end Go.Proofs.Ytdmdcgcmappliaa
