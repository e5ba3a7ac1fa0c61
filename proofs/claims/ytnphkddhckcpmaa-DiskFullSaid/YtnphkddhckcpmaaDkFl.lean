/-
  DiskFull: the walk.
-/
import Derived.Test.YtnphkddhckcpmaaDkFp
import Derived.BigQuiet
namespace Go.Proofs.Ytnphkddhckcpmaa
open Go.RowKit Dk
set_option maxRecDepth 100000
set_option maxHeartbeats 4000000
attribute [local go_sem] min_int2 max_int2 bstr_toList bstr_size

def FlI (w wr : World) (s m n i : Nat) (d : DS) : Prop := Lab w wr ((fuseT none none).star ((simT s none d).star ((smapT m (lens d.fs)).star emp))) ∧ DS.calm d n ∧ Few d i
theorem full_any (w : World) (x : Nat) (hx : x < 65536) (v : Value) (l : List Deed) (hV : Deeds w v l) (hl : l.length ≤ maxLen) :
    Calls Try.prog 5 #[.int .u16 (x : Int), v] w fun e w' => e = .returned (.bool true) ∧ Ext w w' := by
  obtain ⟨a, c, rfl⟩ := hV.form
  have HV := Lib.hid hV
  have HL := Lib.hid hl
  clear hV hl
  obtain ⟨n, hn⟩ : ∃ n : Nat, x % 300 = n := ⟨_, rfl⟩
  have n300 : n < 300 := by omega
  have ek : Go.RowKit.wrap64 (x : Int) = (x : Int) := by unfold Go.RowKit.wrap64; omega
  have ek2 : (x : Int).tmod 300 = (n : Int) := by rw [← hn]; exact (Int.ofNat_tmod _ 300).symm
  have EK := Lib.hid (And.intro ek ek2)
  clear hn ek ek2
  go_enter Try.func5, Try.ntmps5
  go_wp2_with fail
  refine (dawake_any _).mono ?_; rintro e w1 ⟨rfl, x1⟩
  have HV1 := Lib.hid (HV.out.ext x1)
  have X1 := Lib.hid x1
  clear x1
  go_wp2_with fail
  by_cases hR : l.length ≤ 50 ∧ ∀ x ∈ l, x.small
  case neg =>
    have HR := Lib.hid hR
    clear hR
    refine (room_any _ l 50 false (by omega) ⟨(fun h => Bool.noConfusion h), fun h => absurd h HR.out⟩ HL.out _ HV1.out).mono ?_; rintro e w' ⟨rfl, rfl⟩
    go_wp2_with fail
    go_ret
    exact ⟨rfl, X1.out⟩
  have HR := Lib.hid hR
  have hl50 : l.length ≤ 50 := hR.1
  clear hR
  refine (room_any _ l 50 true (by omega) ⟨fun _ => HR.out, fun _ => rfl⟩ HL.out _ HV1.out).mono ?_; rintro e w' ⟨rfl, rfl⟩
  have ek := EK.out.1
  have ek2 := EK.out.2
  go_wp2_with fail
  refine (Lab.newdisk (n : Int) ((Lab.start w).ext X1.out).nofuse).mono ?_; rintro e w2 ⟨s, rfl, hL⟩
  have hmo : mostOf (n : Int) = n := by unfold mostOf; rw [if_neg (by omega)]; omega
  rw [hmo] at hL
  have L2 := Lib.hid (show Lab w w2 ((fuseT none none).star ((simT s none ⟨n, false, 0, []⟩).star emp)) from hL)
  clear hL hmo
  have HM := Lib.hid (L2.out.mmade.third')
  obtain ⟨m, hm⟩ : ∃ m, w2.heap.size = m := ⟨_, rfl⟩
  rw [hm] at HM
  have HI0 := Lib.hid (show FlI w _ s m n 0 ⟨n, false, 0, []⟩ from ⟨HM.out, ⟨rfl, rfl, rfl⟩, ⟨Up.nil, Nat.le_refl _, Nat.le_refl _⟩⟩)
  have hmm := @run_makeMap Try.prog
  go_wp2_with fail
  clear hm ek ek2 hmm
  go_loopw [8, 9] (fun v8 v9 wr => ∃ (i : Nat) (d : DS), i ≤ l.length ∧ v9 = .int .i64 (i : Nat) ∧ v8 = .int .i64 (tot d.fs : Nat) ∧ Hid (FlI w wr s m n i d)) (fun _ v9 _ => (l.length - intOf v9).toNat)
  case atStart => exact ⟨0, _, by omega, rfl, rfl, HI0⟩
  case round =>
    obtain ⟨i, d, hi, rfl, rfl, HI⟩ := hrel
    by_cases hlt : i < l.length
    · have hlt' : (i : Int) < (l.length : Int) := by omega
      have hx : l[i]? = some l[i] := List.getElem?_eq_getElem hlt
      have hsm := HR.out.2 _ (List.getElem_mem hlt)
      obtain ⟨y, hxx⟩ : ∃ x, l[i] = x := ⟨_, rfl⟩
      rw [hxx] at hx hsm
      obtain ⟨ok, b, o, rfl, xda, xdc, c0, c1, c2, c3, c4, c5⟩ := HV.out.at hx
      obtain ⟨xd, xn, xa, xb, xt⟩ := y
      simp only at c0 c1 c2 c3 c4 c5
      have HD := Lib.hid (And.intro c0 (And.intro c1 (And.intro c4 (And.intro c5 hsm))))
      have HOK := Lib.hid ok
      replace c1 := HI.out.1.toExt.cell c1
      clear ok c0 c2 c3 c4 c5 hsm hx hxx
      obtain ⟨y, hy⟩ : ∃ y : UInt8, (97 + (IntKind.u64.wrap xn).tmod 5) % 256 = ((y.toNat : Nat) : Int) := by
        refine ⟨UInt8.ofNat ((97 + (IntKind.u64.wrap xn).tmod 5) % 256).toNat, ?_⟩
        have h1 : 0 ≤ (97 + (IntKind.u64.wrap xn).tmod 5) % 256 := by omega
        have h2 : (97 + (IntKind.u64.wrap xn).tmod 5) % 256 < 256 := by omega
        generalize (97 + (IntKind.u64.wrap xn).tmod 5) % 256 = q at h1 h2 ⊢
        rw [UInt8.toNat_ofNat']
        omega
      have b0 : Bytes (wr.alloc (.cells #[.int .u8 ((y.toNat : Nat) : Int)] 5)) (.slice (some ⟨wr.heap.size, 0, none⟩) 1 1) [y] := (Own.new wr 0 5 #[bv y] (Nat.zero_le _) (by unfold maxLen; simp)).cells
      have y1 := str_conv b0 _ (Ext.refl _)
      have y2 : ({ data := #[102] } : ByteArray) ++ bstr [y] = bstr [102, y] := by
        apply ByteArray.ext
        rw [ByteArray.data_append]
        simp [bstr]
      have x3 : Ext wr (wr.alloc (.cells #[.int .u8 ((y.toNat : Nat) : Int)] 5)) := (Ext.refl wr).alloc (Nat.le_refl _) _
      have HI1 := Lib.hid (show FlI w _ s m n i d from ⟨HI.out.1.ext x3, HI.out.2⟩)
      have c0 := HI1.out.1.toExt.cell HD.out.1
      have c4 := HI1.out.1.toExt.cell HD.out.2.2.1
      clear b0 x3
      obtain ⟨p, hp⟩ : ∃ p : Path, [102, y] = p := ⟨_, rfl⟩
      rw [hp] at y2
      have hok : okP p = true := by rw [← hp]; rfl
      have hpl : p.length ≤ maxLen := by rw [← hp]; unfold maxLen; simp
      have HOP := Lib.hid (And.intro hok hpl)
      by_cases h5 : xd = 5
      · subst h5
        have sm := HI1.out.1.right.right.left.smap
        have lk := sm.lookok p hpl
        rw [(lens_get d.fs p).2, (lens_get d.fs p).1] at lk
        have hdf := del_few HI1.out.2.2 p
        have htt := HI1.out.2.2.tot
        obtain ⟨t, ht⟩ : ∃ t, tot d.fs = t := ⟨_, rfl⟩
        obtain ⟨ol, hol⟩ : ∃ o, olen p d.fs = o := ⟨_, rfl⟩
        obtain ⟨gb, hgb⟩ : ∃ g, (get p d.fs).isSome = g := ⟨_, rfl⟩
        rw [hol, hgb] at lk
        have HE := Lib.hid (And.intro ht (And.intro hol (And.intro hgb hdf)))
        rw [ht]
        clear hp hok hpl sm hdf
        go_wp2_with fail
        refine (HI1.out.1.delete p (by decide) HOP.out.2).mono ?_
        rw [full_delete2 HI1.out.2.1 HI1.out.2.2 p HOP.out.1, hgb]; rintro e w5 ⟨rfl, hL⟩
        obtain ⟨d5, hd5⟩ : ∃ d5 : DS, { d with fs := del p d.fs } = d5 := ⟨_, rfl⟩
        have hdf : Few d5 (i + 1) ∧ tot d5.fs + olen p d.fs = tot d.fs := by rw [← hd5]; exact HE.out.2.2.2
        have hl5 : del p (lens d.fs) = lens d5.fs := by rw [← hd5]; exact lens_del _ _
        have hc5 : DS.calm d5 n := by rw [← hd5]; exact HI1.out.2.1
        rw [hd5] at hL
        have lk2 := (hL.right.right.left).smap.look p HOP.out.2
        rw [(lens_get d.fs p).1, hol] at lk2
        obtain ⟨w6, hrun, hL6⟩ := Lab.mdel hL.third p HOP.out.2 0
        rw [hl5] at hL6
        obtain ⟨r, hr⟩ : ∃ r, (if gb = true then 0 else 6) = r := ⟨_, rfl⟩
        have hrb : (((r : Nat) : Int) == 0) = gb := by rw [← hr]; cases gb <;> rfl
        have e9 : ((t : Nat) : Int) - (ol : Int) = ((tot d5.fs : Nat) : Int) := by have := hdf.2; omega
        have e10 : tot d5.fs ≤ 250000 := by have := hdf.1.tot; omega
        have H6 := Lib.hid (show FlI w w6 s m n (i + 1) d5 from ⟨hL6.third', hc5, hdf.1⟩)
        rw [hr]
        clear hL hL6 hl5 hc5 hdf hd5 hr lk ht hol hgb
        go_wp2_with fail
        exact ⟨⟨i + 1, d5, by omega, by go_num, rfl, H6⟩, by simp [intOf]; omega⟩
      · have q5 : (xd == 5) = false := by simpa using h5
        have hxt : xt.length ≤ 5000 := HD.out.2.2.2.2.2.2
        obtain ⟨t, ht⟩ : ∃ t, tot d.fs = t := ⟨_, rfl⟩
        obtain ⟨ol, hol⟩ : ∃ o, olen p d.fs = o := ⟨_, rfl⟩
        have htt : t ≤ i * 5000 := by rw [← ht]; exact HI1.out.2.2.tot
        have hole : ol ≤ t := by rw [← hol, ← ht]; exact olen_le p d.fs
        have HE := Lib.hid (And.intro ht hol)
        have hfw := full_write HI1.out.2.1 HI1.out.2.2 p HOP.out.1 xt hxt (by omega)
        have htp := tot_put HI1.out.2.2.up p ⟨xt, false⟩
        rw [ht, hol] at hfw htp
        rw [ht]
        have HTP := Lib.hid htp
        have HFW := Lib.hid hfw
        clear hp hok hpl ht hol htp hfw
        go_wp2_with fail
        refine (HI1.out.1.write p _ xt (by decide) HOP.out.2 (Cells.ext HD.out.2.2.2.1 HI1.out.1.toExt) (Nat.le_trans hxt (by decide)) (by rw [HE.out.1]; omega) (by have := HI1.out.2.2.len; omega)).mono ?_
        rw [HFW.out]
        have e1 : ((t : Nat) : Int) - (ol : Int) = ((t - ol : Nat) : Int) := by omega
        have e2 : ((t - ol : Nat) : Int) + (xt.length : Int) = ((t - ol + xt.length : Nat) : Int) := by omega
        obtain ⟨z1, hz1⟩ : ∃ z1, t - ol = z1 := ⟨_, rfl⟩
        rw [hz1] at e1 e2
        obtain ⟨z, hz⟩ : ∃ z, z1 + xt.length = z := ⟨_, rfl⟩
        rw [hz] at e2
        have hzb : z ≤ 300000 := by omega
        have e3 : IntKind.i64.wrap ((z1 : Nat) : Int) = ((z1 : Nat) : Int) := by rw [IntKind.wrap_i64]; omega
        have e4 : IntKind.i64.wrap ((z : Nat) : Int) = ((z : Nat) : Int) := by rw [IntKind.wrap_i64]; omega
        by_cases hft : t + xt.length ≤ n + ol
        · rw [if_pos hft]; rintro e w5 ⟨rfl, hL⟩
          have hzn : z ≤ n := by omega
          have hzn2 : ((z : Nat) : Int) ≤ (n : Int) := by omega
          obtain ⟨d5, hd5⟩ : ∃ d5 : DS, { d with fs := put p ⟨xt, false⟩ d.fs } = d5 := ⟨_, rfl⟩
          have hz5 : tot d5.fs = z := by
            have h1 := HTP.out
            have h2 : (⟨xt, false⟩ : Fil).b.length = xt.length := rfl
            rw [← hd5]; show tot (put p ⟨xt, false⟩ d.fs) = z; omega
          have HZ := Lib.hid hz5
          have hl5 : put p xt.length (lens d.fs) = lens d5.fs := by rw [← hd5]; exact lens_put _ _ _
          have HC5 := Lib.hid (show DS.calm d5 n ∧ Few d5 (i + 1) by rw [← hd5]; exact ⟨HI1.out.2.1, full_few HI1.out.2.2 p xt hxt⟩)
          rw [hd5] at hL
          have lk := (lens_get d.fs p).1
          rw [HE.out.2] at lk
          have l1 := (hL.drew.right.right.left).smap.look p HOP.out.2
          have l2 := (hL.drew.drew.right.right.left).smap.look p HOP.out.2
          rw [lk] at l1 l2
          have S0 : (fun w' : World => w'.cell? ⟨b, o + i * 5 + 4, none⟩ = some (.slice xda xt.length xdc) ∧ (Instr.lookup 43 (.map (some m)) (.string (bstr p)) false).run Try.prog w' = .ok (.int .i64 (ol : Int)) w') w5.drew := ⟨hL.drew.toExt.cell HD.out.2.2.1, l1⟩
          have S1 : (fun w' : World => w'.cell? ⟨b, o + i * 5 + 4, none⟩ = some (.slice xda xt.length xdc) ∧ (Instr.lookup 43 (.map (some m)) (.string (bstr p)) false).run Try.prog w' = .ok (.int .i64 (ol : Int)) w') w5.drew.drew := ⟨hL.drew.drew.toExt.cell HD.out.2.2.1, l2⟩
          obtain ⟨w6, hrun, hL6⟩ := Lab.mput hL.drew.drew.third p HOP.out.2 xt.length (by rw [lens_length]; have := HI1.out.2.2.len; omega)
          rw [hl5] at hL6
          have H6 := Lib.hid (show FlI w w6 s m n (i + 1) d5 from ⟨hL6.third', HC5.out⟩)
          have c44 := hL.drew.drew.toExt.cell HD.out.2.2.1
          clear hL hL6 hl5 hd5 hz5 lk l1 l2 hft
          go_wp2_with fail
          go_region_held3 (fun w' : World => w'.cell? ⟨b, o + i * 5 + 4, none⟩ = some (.slice xda xt.length xdc) ∧ (Instr.lookup 43 (.map (some m)) (.string (bstr p)) false).run Try.prog w' = .ok (.int .i64 (ol : Int)) w') (assumption) (fail)
          go_wp2_with fail
          go_region_held3 (fun w' : World => w'.cell? ⟨b, o + i * 5 + 4, none⟩ = some (.slice xda xt.length xdc) ∧ (Instr.lookup 43 (.map (some m)) (.string (bstr p)) false).run Try.prog w' = .ok (.int .i64 (ol : Int)) w') (assumption) (fail)
          clear S0 S1
          go_wp2_with fail
          refine (Lab.used H6.out.1 H6.out.1.right.left (by have := H6.out.2.2.tot; omega)).mono ?_; rintro e wu ⟨rfl, hL⟩
          have LU := Lib.hid hL
          rw [HZ.out]
          clear hL
          go_wp2_with fail
          refine (Lab.room LU.out LU.out.right.left (by have := H6.out.2.2.tot; omega)).mono ?_; rintro e wv ⟨rfl, hL⟩
          have LV := Lib.hid hL
          clear hL
          rw [H6.out.2.1.1, HZ.out]
          go_wp2_with fail
          refine (Lab.files LV.out LV.out.right.left (by have := H6.out.2.2.len; omega)).mono ?_; rintro e wx ⟨fv, rfl, hL⟩
          obtain ⟨fa, fc, hfv⟩ := Own.slice' (ownT.own hL.left)
          have e8 : (pvs (paths (d5).fs)).length = (d5).fs.length := by simp [pvs, paths]
          rw [e8] at hfv
          subst hfv
          have e7 := (hL.right.right.right.left).smap.len 3
          rw [lens_length] at e7
          have LX := Lib.hid hL.right
          clear hL e8
          go_wp2_with fail
          exact ⟨⟨i + 1, d5, by omega, by go_num, by rw [HZ.out], Lib.hid ⟨LX.out, H6.out.2⟩⟩, by simp [intOf]; omega⟩
        · rw [if_neg hft]; rintro e w5 ⟨rfl, hL⟩
          have hzn : ¬ z ≤ n := by omega
          have hzn2 : ¬ ((z : Nat) : Int) ≤ (n : Int) := by omega
          have HZ := Lib.hid HE.out.1
          have lk := (lens_get d.fs p).1
          rw [HE.out.2] at lk
          have l1 := (hL.drew.right.right.left).smap.look p HOP.out.2
          rw [lk] at l1
          have S0 : (fun w' : World => w'.cell? ⟨b, o + i * 5 + 4, none⟩ = some (.slice xda xt.length xdc) ∧ (Instr.lookup 43 (.map (some m)) (.string (bstr p)) false).run Try.prog w' = .ok (.int .i64 (ol : Int)) w') w5.drew := ⟨hL.drew.toExt.cell HD.out.2.2.1, l1⟩
          have H6 := Lib.hid (show FlI w w5.drew s m n (i + 1) d from ⟨hL.drew, HI1.out.2.1, HI1.out.2.2.more⟩)
          clear hL lk l1 hft
          go_wp2_with fail
          go_region_held3 (fun w' : World => w'.cell? ⟨b, o + i * 5 + 4, none⟩ = some (.slice xda xt.length xdc) ∧ (Instr.lookup 43 (.map (some m)) (.string (bstr p)) false).run Try.prog w' = .ok (.int .i64 (ol : Int)) w') (assumption) (fail)
          clear S0
          go_wp2_with fail
          refine (Lab.used H6.out.1 H6.out.1.right.left (by have := H6.out.2.2.tot; omega)).mono ?_; rintro e wu ⟨rfl, hL⟩
          have LU := Lib.hid hL
          rw [HZ.out]
          clear hL
          go_wp2_with fail
          refine (Lab.room LU.out LU.out.right.left (by have := H6.out.2.2.tot; omega)).mono ?_; rintro e wv ⟨rfl, hL⟩
          have LV := Lib.hid hL
          clear hL
          rw [H6.out.2.1.1, HZ.out]
          go_wp2_with fail
          refine (Lab.files LV.out LV.out.right.left (by have := H6.out.2.2.len; omega)).mono ?_; rintro e wx ⟨fv, rfl, hL⟩
          obtain ⟨fa, fc, hfv⟩ := Own.slice' (ownT.own hL.left)
          have e8 : (pvs (paths (d).fs)).length = (d).fs.length := by simp [pvs, paths]
          rw [e8] at hfv
          subst hfv
          have e7 := (hL.right.right.right.left).smap.len 3
          rw [lens_length] at e7
          have LX := Lib.hid hL.right
          clear hL e8
          go_wp2_with fail
          exact ⟨⟨i + 1, d, by omega, by go_num, by rw [HZ.out], Lib.hid ⟨LX.out, H6.out.2⟩⟩, by simp [intOf]; omega⟩
    · obtain rfl : i = l.length := by omega
      clear hlt
      go_wp2_with fail
      go_ret
      exact ⟨rfl, HI.out.1.toExt⟩
end Go.Proofs.Ytnphkddhckcpmaa
