/-
  MatrixRows.
-/
import Derived.Test.YtdmdcgcmappliaaMxM
import Derived.Test.YtdmdcgcmappliaaMxN
namespace Go.Proofs.Ytdmdcgcmappliaa
open Go.RowKit
set_option maxRecDepth 100000
set_option maxHeartbeats 4000000
attribute [local go_sem] min_int2 max_int2 bstr_toList

theorem rsame_eq (v u : Value) (ls ks : List (List UInt8)) (h : ls = ks) (hl : ls.length ≤ maxLen) (w : World) (hV : BRows w v ls) (hU : BRows w u ks) :
    Calls Try.prog 20 #[v, u] w fun e w' => e = .returned (.bool true) ∧ Ext w w' :=
  (rsame_any v u ls ks true (by simp [h]) hl w hV hU).mono fun e w' ⟨h, m, hm⟩ => ⟨h, hm ▸ Ext.of_drawn _ _⟩

theorem ivs_one (l : List Int) : ∀ u ∈ ivs l, u.oneCell' = true := by
  intro u hu
  obtain ⟨z, _, rfl⟩ := List.mem_map.1 hu
  rfl
theorem mrows_any (w : World) (va : Value) (a : Mat.M) (ha : BRows w va a) (_la : a.length ≤ maxLen) (_ra : ∀ l ∈ a, l.length ≤ maxLen) (vb : Value) (b : Mat.M) (hb : BRows w vb b) (_lb : b.length ≤ maxLen) (_rb : ∀ l ∈ b, l.length ≤ maxLen) (vl : Value) (l : List UInt8) (hl : Bytes w vl l) (_ll : l.length ≤ maxLen) :
    Calls Try.prog 8 #[va, vb, vl] w fun e w' => e = .returned (.bool true) ∧ Ext w w' := by
  obtain ⟨aa, ac, rfl⟩ := ha.form
  obtain ⟨ba, bc, rfl⟩ := hb.form
  obtain ⟨la, lc, rfl⟩ := hl.slice
  have HA := Lib.hid ha
  have HB := Lib.hid hb
  have HL := Lib.hid hl
  clear ha hb hl _la _ra _lb _rb _ll
  go_enter Try.func8, Try.ntmps8
  go_wp2_with fail
  refine (mawake_any _).mono ?_; rintro e w1 ⟨rfl, x1⟩
  have HA1 := Lib.hid (HA.out.ext x1)
  have HB1 := Lib.hid (HB.out.ext x1)
  have HL1 := Lib.hid (HL.out.ext x1)
  have X1 := Lib.hid x1
  clear x1 HA HB HL
  by_cases sa : SmallM a
  case neg =>
    have S := Lib.hid sa
    clear sa
    go_wp2_with fail
    refine (smallF _ a S.out _ HA1.out).mono ?_; rintro e w' ⟨rfl, rfl⟩
    go_wp2_with fail
    go_ret
    exact ⟨rfl, X1.out⟩
  by_cases sb : SmallM b
  case neg =>
    have S1 := Lib.hid sa
    have S := Lib.hid sb
    clear sa sb
    go_wp2_with fail
    refine (smallT _ a S1.out _ HA1.out).mono ?_; rintro e w' ⟨rfl, rfl⟩
    go_wp2_with fail
    refine (smallF _ b S.out _ HB1.out).mono ?_; rintro e w' ⟨rfl, rfl⟩
    go_wp2_with fail
    go_ret
    exact ⟨rfl, X1.out⟩
  have S1 := Lib.hid sa
  have S2 := Lib.hid sb
  clear sa sb
  by_cases hl0 : l.length = 0
  case pos =>
    rw [hl0] at HL1
    rw [hl0]
    go_wp2_with fail
    refine (smallT _ a S1.out _ HA1.out).mono ?_; rintro e w' ⟨rfl, rfl⟩
    go_wp2_with fail
    refine (smallT _ b S2.out _ HB1.out).mono ?_; rintro e w' ⟨rfl, rfl⟩
    go_wp2_with fail
    go_ret
    exact ⟨rfl, X1.out⟩
  by_cases hl40 : 40 < l.length
  case pos =>
    have q1 : ((l.length : Int) == 0) = false := beq_eq_false_iff_ne.2 (by omega)
    have q2 : (40 : Int) < (l.length : Int) := by omega
    clear hl0 hl40
    go_wp2_with fail
    refine (smallT _ a S1.out _ HA1.out).mono ?_; rintro e w' ⟨rfl, rfl⟩
    go_wp2_with fail
    refine (smallT _ b S2.out _ HB1.out).mono ?_; rintro e w' ⟨rfl, rfl⟩
    go_wp2_with fail
    go_ret
    exact ⟨rfl, X1.out⟩
  have q1 : ((l.length : Int) == 0) = false := beq_eq_false_iff_ne.2 (by omega)
  have q2 : (l.length : Int) ≤ 40 := by omega
  have q0 : 1 ≤ l.length := by omega
  clear hl0 hl40
  go_wp2_with fail
  refine (smallT _ a S1.out _ HA1.out).mono ?_; rintro e w' ⟨rfl, rfl⟩
  go_wp2_with fail
  refine (smallT _ b S2.out _ HB1.out).mono ?_; rintro e w' ⟨rfl, rfl⟩
  go_wp2_with fail
  by_cases hab : MayMul a b
  case neg =>
    have N1 := Lib.hid hab
    clear hab
    refine (mul_no _ _ a b N1.out _ HA1.out HB1.out).mono ?_; rintro e w2 ⟨rfl, x2⟩
    have X2 := Lib.hid (Ext.trans X1.out x2)
    clear x2
    go_wp2_with fail
    go_ret
    exact ⟨rfl, X2.out⟩
  obtain ⟨n, k, m, b1, b2, b3, SA, SB⟩ := hab.parts
  have SBh := Lib.hid SB
  have B := Lib.hid (And.intro b1 (And.intro b2 b3))
  have hA1 := HA1.out
  rw [SA.1] at hA1
  rw [SA.1]
  clear HA1
  have HA1 := Lib.hid hA1
  have SAh := Lib.hid SA
  clear b1 b2 b3 SA SB hab hA1
  refine (mul_any _ _ a b n k m B.out.1 B.out.2.1 B.out.2.2 SAh.out SBh.out _ HA1.out HB1.out).mono ?_; rintro e w2 ⟨g1, rfl, hM, x2⟩
  have HA2 := Lib.hid (HA1.out.ext x2)
  have HB2 := Lib.hid (HB1.out.ext x2)
  have HL2 := Lib.hid (HL1.out.ext x2)
  have MS := Lib.hid (Mat.mmul_sh (m := m) (b := b) SAh.out)
  have HM2 := Lib.hid (hM.brows (n := n) (by rw [MS.out.1]))
  have X2 := Lib.hid (Ext.trans X1.out x2)
  clear x2 hM HA1 HB1 HL1
  have n1 := B.out.1.1
  go_wp2_with fail
  go_loopw [9, 10] (fun v9 v10 wr => ∃ (i : Nat) (xa : Option Addr) (xc : Nat), i ≤ l.length ∧ v10 = .int .i64 (i : Nat) ∧ v9 = .slice xa i xc ∧ Hid (Own wr w2.heap.size 3 (.slice xa i xc) (ivs (((l.take i).map fun x => x.toNat % n).map Int.ofNat))) ∧ Below w2.heap.size w2 wr) (fun _ v10 _ => (l.length - intOf v10).toNat)
  case atStart => exact ⟨0, _, _, by omega, rfl, rfl, Lib.hid (by rw [List.take_zero]; exact Own.nil _ _ _), Ext.refl _⟩
  case round =>
    obtain ⟨i, xa, xc, hi, rfl, rfl, hR, hBr⟩ := hrel
    by_cases hlt : i < l.length
    · have hlt' : (i : Int) < (l.length : Int) := by omega
      obtain ⟨lb, lo, rfl, c1⟩ := (HL2.out.ext hBr).at (bvs_get hlt)
      obtain ⟨x, hx⟩ : ∃ x, l[i] = x := ⟨_, rfl⟩
      rw [hx] at c1
      have ez : Hid ((Go.RowKit.wrap64 (x.toNat : Int)).tmod (n : Int) = ((x.toNat % n : Nat) : Int)) := Lib.hid (by
        have := x.toNat_lt
        rw [show Go.RowKit.wrap64 (x.toNat : Int) = (x.toNat : Int) from by unfold Go.RowKit.wrap64; omega]
        exact (Int.ofNat_tmod _ _).symm)
      have HP : Hid (ivs (((l.take i).map fun x => x.toNat % n).map Int.ofNat) ++ [.int .i64 ((Go.RowKit.wrap64 (x.toNat : Int)).tmod (n : Int))] = ivs (((l.take (i + 1)).map fun x => x.toNat % n).map Int.ofNat)) := Lib.hid (by
        rw [List.take_add_one, List.getElem?_eq_getElem hlt, hx, ez.out]
        simp)
      have x6 : Ext wr (wr.alloc (.cells #[.int .i64 ((Go.RowKit.wrap64 (x.toNat : Int)).tmod (n : Int))] 3)) := (Ext.refl wr).alloc (Nat.le_refl _) _
      have hsrc : Cells (wr.alloc (.cells #[.int .i64 ((Go.RowKit.wrap64 (x.toNat : Int)).tmod (n : Int))] 3)) (.slice (some ⟨wr.heap.size, 0, none⟩) 1 1) [.int .i64 ((Go.RowKit.wrap64 (x.toNat : Int)).tmod (n : Int))] := (Own.new wr 0 3 #[.int .i64 ((Go.RowKit.wrap64 (x.toNat : Int)).tmod (n : Int))] (Nat.zero_le _) (by unfold maxLen; simp)).cells
      have hln : (ivs (((l.take i).map fun x => x.toNat % n).map Int.ofNat)).length = i := by simp; omega
      have W := Lib.hid (And.intro (hR.out.ext x6) (And.intro hsrc (And.intro hln (Nat.le_trans hBr.size x6.size))))
      have hB6 := Lib.hid (Below.trans hBr (Below.mono x6 hBr.size))
      have HZ := Lib.hid (show ∀ u ∈ [Value.int .i64 ((Go.RowKit.wrap64 (x.toNat : Int)).tmod (n : Int))], u.oneCell' = true from fun u hu => by rw [List.mem_singleton.1 hu]; rfl)
      clear hsrc hln hx x6
      go_wp2_with (at_builtin; refine list_of_wp rfl fun K hK => wp_appx _ _ 43 43 3 (.int .i64 0) 8 rfl Try.underlying43 info_int rfl rfl W.out.1 rfl (Cells.src Try.underlying43 W.out.2.1 HZ.out) (by rw [W.out.2.2.1]; simp [maxLen]; omega) (by rw [W.out.2.2.1]; simp; omega) W.out.2.2.2 (i + 1) (by rw [W.out.2.2.1]; simp) fun ad c w7 ha => hK _ _ ?_)
      rw [HP.out] at ha
      have HN := Lib.hid ha.1
      have hB8 := Lib.hid (Below.grown hB6.out ha.2.1 W.out.2.2.2 (fun k hk => W.out.1.block k hk))
      clear ha c1
      go_wp2_with fail
      exact ⟨⟨i + 1, _, _, by omega, by go_num, rfl, HN, hB8.out⟩, by simp [intOf]; omega⟩
    · obtain rfl : i = l.length := by omega
      have hN := hR.out.cells
      rw [List.take_length] at hN
      obtain ⟨at', hat⟩ : ∃ t : List Nat, (l.map fun x => x.toNat % n) = t := ⟨_, rfl⟩
      rw [hat] at hN
      have hal : at'.length = l.length := by rw [← hat]; simp
      have hai : ∀ i ∈ at', i < n := by
        intro i hi
        rw [← hat] at hi
        obtain ⟨x, _, rfl⟩ := List.mem_map.1 hi
        exact Nat.mod_lt _ n1
      have HN := Lib.hid (show Ints wr (.slice xa at'.length xc) (at'.map Int.ofNat) from by rw [hal]; exact hN)
      have HAL := Lib.hid (And.intro hal hai)
      have HA3 := Lib.hid (HA2.out.ext hBr)
      have HB3 := Lib.hid (HB2.out.ext hBr)
      have HM3 := Lib.hid (HM2.out.ext hBr)
      have X3 := Lib.hid (Ext.trans X2.out hBr)
      rw [← hal]
      have b1 : 1 ≤ at'.length := by omega
      have b2 : at'.length ≤ 40 := by omega
      clear hN hal hai hat hlt hR hBr HA2 HB2 HM2 HL2 q1 q2 q0 n1 hi
      go_wp2_with fail
      have GM : Mat.Good (Mat.mmul a b m) := ⟨n, m, B.out.1.1, B.out.1.2, B.out.2.2.1, B.out.2.2.2, MS.out⟩
      have GA : Mat.Good a := ⟨n, k, B.out.1.1, B.out.1.2, B.out.2.1.1, B.out.2.1.2, SAh.out⟩
      have HGM := Lib.hid GM
      have HGA := Lib.hid GA
      clear GM GA
      refine (rows_any _ _ _ at' HGM.out b1 (by omega) (fun i hi => by rw [MS.out.1]; exact HAL.out.2 i hi) _ HM3.out HN.out).mono ?_; rintro e w4 ⟨p, rfl, hP, x4⟩
      have HA4 := Lib.hid (HA3.out.ext x4)
      have HB4 := Lib.hid (HB3.out.ext x4)
      have HN4 := Lib.hid (HN.out.ext x4)
      have HP4 := Lib.hid hP
      have X4 := Lib.hid (Ext.trans X3.out x4)
      clear x4 hP HA3 HB3 HM3 HN
      go_wp2_with fail
      refine (rows_any _ _ a at' HGA.out b1 (by omega) (fun i hi => by rw [SAh.out.1]; exact HAL.out.2 i hi) _ HA4.out HN4.out).mono ?_; rintro e w5 ⟨q, rfl, hQ, x5⟩
      have HA5 := Lib.hid (HA4.out.ext x5)
      have HB5 := Lib.hid (HB4.out.ext x5)
      have HP5 := Lib.hid (HP4.out.ext x5)
      have HQ5 := Lib.hid hQ
      have X5 := Lib.hid (Ext.trans X4.out x5)
      have QS := Lib.hid (Mat.pick_sh SAh.out HAL.out.2)
      clear x5 hQ HA4 HB4 HP4 HN4
      go_wp2_with fail
      refine (mul_any _ _ (Mat.pick a at') b at'.length k m ⟨b1, by omega⟩ B.out.2.1 B.out.2.2 QS.out SBh.out _ HQ5.out HB5.out).mono ?_; rintro e w6 ⟨g6, rfl, hM, x6⟩
      rw [Mat.pick_mmul SAh.out HAL.out.2] at hM
      have PS := Lib.hid (Mat.pick_sh MS.out HAL.out.2)
      have HA6 := Lib.hid (HA5.out.ext x6)
      have HP6 := Lib.hid (HP5.out.ext x6)
      have HM6 := Lib.hid (hM.brows (n := at'.length) (by rw [PS.out.1]))
      have X6 := Lib.hid (Ext.trans X5.out x6)
      clear x6 hM HA5 HB5 HP5 HQ5
      go_wp2_with fail
      refine (unit_any n B.out.1.1 B.out.1.2 _).mono ?_; rintro e w7 ⟨g7, vs7, rfl, hO, x7⟩
      have HA7 := Lib.hid (HA6.out.ext x7)
      have HP7 := Lib.hid (HP6.out.ext x7)
      have HM7 := Lib.hid (HM6.out.ext x7)
      have HO7 := Lib.hid (hO.mr.brows (n := n) (by rw [(Mat.unit_sh n).1]))
      have X7 := Lib.hid (Ext.trans X6.out x7)
      clear x7 hO HA6 HP6 HM6
      go_wp2_with fail
      refine (mul_any _ _ (Mat.unit n) a n n k B.out.1 B.out.1 B.out.2.1 (Mat.unit_sh n) SAh.out _ HO7.out HA7.out).mono ?_; rintro e w8 ⟨g8, rfl, hU, x8⟩
      rw [Mat.unit_mmul SAh.out] at hU
      have HA8 := Lib.hid (HA7.out.ext x8)
      have HP8 := Lib.hid (HP7.out.ext x8)
      have HM8 := Lib.hid (HM7.out.ext x8)
      have HU8 := Lib.hid (hU.brows (n := n) (by rw [SAh.out.1]))
      have X8 := Lib.hid (Ext.trans X7.out x8)
      clear x8 hU HA7 HP7 HM7 HO7
      go_wp2_with fail
      refine (rsame_eq _ _ _ _ rfl (by rw [PS.out.1]; unfold maxLen; omega) _ HP8.out HM8.out).mono ?_; rintro e w9 ⟨rfl, x9⟩
      have HA9 := Lib.hid (HA8.out.ext x9)
      have HU9 := Lib.hid (HU8.out.ext x9)
      have X9 := Lib.hid (Ext.trans X8.out x9)
      clear x9 HA8 HP8 HM8 HU8
      go_wp2_with fail
      refine (rsame_eq _ _ a a rfl (by rw [SAh.out.1]; have := B.out.1.2; unfold maxLen; omega) _ HU9.out HA9.out).mono ?_; rintro e w10 ⟨rfl, x10⟩
      have X10 := Lib.hid (Ext.trans X9.out x10)
      clear x10
      go_wp2_with fail
      go_ret
      exact ⟨rfl, X10.out⟩
end Go.Proofs.Ytdmdcgcmappliaa
