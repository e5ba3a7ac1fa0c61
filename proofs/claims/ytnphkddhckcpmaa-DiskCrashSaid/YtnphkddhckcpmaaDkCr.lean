/-
  DiskCrash: the walk.
-/
import Derived.Test.YtnphkddhckcpmaaDkRp
import Derived.BigQuiet
namespace Go.Proofs.Ytnphkddhckcpmaa
open Go.RowKit Dk
set_option maxRecDepth 100000
set_option maxHeartbeats 4000000
attribute [local go_sem] min_int2 max_int2 bstr_toList bstr_size

theorem info_bo : (Try.prog.info? 4).map (fun i => (i.zero, i.size, i.bytes)) = some (some (.bool false), 1, 1) := by kernel_rfl
theorem Lab.fifth {w0 w : World} {X Y Z V U R : Thing} (h : Lab w0 w (X.star (Y.star (Z.star (V.star (U.star R)))))) : Lab w0 w (U.star (X.star (Y.star (Z.star (V.star R))))) := (h.ent (.star (.refl _) .fourth)).swap
/-- What was looked at of the first i: bytes, marks. -/
def crd (d : DS) (ps : List Path) (i : Nat) : List Value := pvs ((ps.take i).map fun q => lookb q d.fs)
def crs (d : DS) (ps : List Path) (i : Nat) : List Value := (ps.take i).map fun q => .bool (looks q d.fs)
def CrI (w wq : World) (s : Nat) (d : DS) (va : Option Addr) (vc m : Nat) (ps : List Path) (da : Option Addr) (dc : Nat) (sa : Option Addr) (sc i : Nat) : Prop :=
  Lab w wq ((ownT 9 (.slice da i dc) (crd d ps i)).star ((ownT 4 (.slice sa i sc) (crs d ps i)).star ((ownT 9 (.slice va m vc) (pvs ps)).star ((fuseT none none).star ((simT s none d).star emp)))))
def CrJ (w wq : World) (s : Nat) (d d2 : DS) (va : Option Addr) (vc : Nat) (xa : Option Addr) (xc m : Nat) (ps : List Path) (da : Option Addr) (dc : Nat) (sa : Option Addr) (sc : Nat) : Prop :=
  Lab w wq ((ownT 9 (.slice xa m xc) (pvs ps)).star ((simT s none d2).star ((ownT 9 (.slice da m dc) (crd d ps m)).star ((ownT 4 (.slice sa m sc) (crs d ps m)).star ((ownT 9 (.slice va m vc) (pvs ps)).star ((fuseT none none).star emp))))))
theorem tot_cut (k : Nat) (l : L Fil) : tot (mapv (cutf k) l) ≤ tot l := by
  induction l with
  | nil => exact Nat.le_refl _
  | cons e l ih =>
    show tot ((e.1, cutf k e.2) :: mapv (cutf k) l) ≤ _
    rw [tot_cons, tot_cons]
    have : (cutf k e.2).b.length ≤ e.2.b.length := by
      unfold cutf
      split
      · exact Nat.le_refl _
      · simp only [List.length_take]; omega
    show (cutf k e.2).b.length + _ ≤ _
    omega
theorem cut_facts (k : Nat) (f : Fil) : (cutf k f).sure = true ∧ (cutf k f).b.length ≤ f.b.length ∧ (bstr f.b).extract 0 (cutf k f).b.length = bstr (cutf k f).b ∧ (f.sure = true → (cutf k f).b.length = f.b.length) := by
  have key : ∀ n, n ≤ f.b.length → (bstr f.b).extract 0 n = bstr (f.b.take n) := fun n hn => by
    apply ByteArray.ext
    rw [ByteArray.data_extract]
    simp [bstr]
  unfold cutf
  cases hs : f.sure with
  | true =>
    simp only [if_true]
    refine ⟨hs, Nat.le_refl _, ?_, fun _ => trivial⟩
    rw [key _ (Nat.le_refl _), List.take_length]
  | false =>
    simp only [Bool.false_eq_true, if_false]
    have hl : (f.b.take (k % (f.b.length + 1))).length = k % (f.b.length + 1) := by
      rw [List.length_take]
      have := Nat.mod_lt k (show 0 < f.b.length + 1 by omega)
      omega
    refine ⟨trivial, by rw [List.length_take]; omega, ?_, fun h => by cases h⟩
    rw [hl, key _ (by have := Nat.mod_lt k (show 0 < f.b.length + 1 by omega); omega)]
theorem crash_law (w : World) (v : Value) (l : List Deed) (hV : Deeds w v l) (hl : l.length ≤ maxLen) (keep : Int) (hk : -9223372036854775808 ≤ keep ∧ keep ≤ 9223372036854775807) :
    Calls Try.prog 9 #[v, .int .i64 keep] w fun e w' => e = .returned (.bool true) ∧ Ext w w' := by
  obtain ⟨a, c, rfl⟩ := hV.form
  have HV := Lib.hid hV
  have HL := Lib.hid hl
  clear hV hl
  have HK := Lib.hid hk
  clear hk
  go_enter Try.func9, Try.ntmps9
  go_wp2_with fail
  refine (dawake_any _).mono ?_; rintro e w1 ⟨rfl, x1⟩
  have HV1 := Lib.hid (HV.out.ext x1)
  have X1 := Lib.hid x1
  have LY := Lib.hid (show Lab w w1 emp from (Lab.start w).ext X1.out)
  clear x1
  go_wp2_with fail
  by_cases hR : l.length ≤ 80 ∧ ∀ x ∈ l, x.small
  case neg =>
    have HR := Lib.hid hR
    clear hR
    refine (room_any _ l 80 false (by omega) ⟨(fun h => Bool.noConfusion h), fun h => absurd h HR.out⟩ HL.out _ HV1.out).mono ?_; rintro e w' ⟨rfl, rfl⟩
    go_wp2_with fail
    go_ret
    exact ⟨rfl, X1.out⟩
  have HR := Lib.hid hR
  have hl40 : l.length ≤ 80 := hR.1
  clear hR
  refine (room_any _ l 80 true (by omega) ⟨fun _ => HR.out, fun _ => rfl⟩ HL.out _ HV1.out).mono ?_; rintro e w' ⟨rfl, rfl⟩
  go_wp2_with fail
  refine (Lab.newdisk 5000 (LY.out.nofuse)).mono ?_; rintro e w2 ⟨s, rfl, hL⟩
  have L2 := Lib.hid (show Lab w w2 ((fuseT none none).star ((simT s none ⟨5000, false, 0, []⟩).star emp)) from hL)
  clear hL
  go_wp2_with fail
  refine (Lab.newref 5000 L2.out.rnofuse).mono ?_; rintro e w3 ⟨r, rfl, hL⟩
  have L3 := Lib.hid (show Lab w w3 ((rfuseT none none).star ((refT r none ⟨5000, false, 0, []⟩).star ((fuseT none none).star ((simT s none ⟨5000, false, 0, []⟩).star emp)))) from hL)
  clear hL L2
  have LI := Lib.hid (And.intro L3.out.flip (Life.start 5000))
  clear L3
  go_wp2_with fail
  go_loopw [7] (fun v7 wr => ∃ (i : Nat) (d : DS), i ≤ l.length ∧ v7 = .int .i64 (i : Nat) ∧ Hid (Lab w wr ((fuseT none none).star ((simT s none d).star ((rfuseT none none).star ((refT r none d).star emp)))) ∧ Life 5000 d i)) (fun v7 _ => (l.length - intOf v7).toNat)
  case atStart => exact ⟨0, _, by omega, rfl, LI⟩
  case round =>
    obtain ⟨i, d, hi, rfl, HI⟩ := hrel
    by_cases hlt : i < l.length
    · have hlt' : (i : Int) < (l.length : Int) := by omega
      have hx : l[i]? = some l[i] := List.getElem?_eq_getElem hlt
      have hsm := HR.out.2 _ (List.getElem_mem hlt)
      obtain ⟨x, hxx⟩ : ∃ x, l[i] = x := ⟨_, rfl⟩
      rw [hxx] at hx hsm
      obtain ⟨ok, b, o, rfl, da, dc, c0, c1, c2, c3, c4, c5⟩ := HV.out.at hx
      have HD := Lib.hid (And.intro ok (And.intro c5 hsm))
      replace c0 := HI.out.1.toExt.cell c0
      replace c1 := HI.out.1.toExt.cell c1
      replace c2 := HI.out.1.toExt.cell c2
      replace c3 := HI.out.1.toExt.cell c3
      replace c4 := HI.out.1.toExt.cell c4
      clear ok c5 hsm hx hxx
      obtain ⟨xd, xn, xa, xb, xt⟩ := x
      simp only at c0 c1 c2 c3 c4 HD
      by_cases hd : 0 ≤ xd ∧ xd ≤ 6
      · obtain ⟨hd1, hd2⟩ := hd
        have hfl := HI.out.2.few.len
        have hft := HI.out.2.few.tot
        go_wp2_with fail
        refine (both_any w wr emp s r none none _ none d ⟨xd, xn, xa, xb, xt⟩ da dc HI.out.1 ⟨hd1, hd2⟩ (Nat.le_trans HD.out.2.2.1 (by decide)) (Nat.le_trans HD.out.2.2.2.1 (by decide)) HD.out.2.1 (Nat.le_trans HD.out.2.2.2.2 (by decide)) (by decide) (by omega) (by omega)).mono ?_; rintro e w4 ⟨rfl, hL⟩
        have hst := HI.out.2.step (x := ⟨xd, xn, xa, xb, xt⟩) HD.out.2.2.2.2
        rw [hst.1] at hL
        have HN := Lib.hid (And.intro hL hst.2)
        clear hL hst hfl hft c0 c1 c2 c3 c4
        go_wp2_with fail
        exact ⟨⟨i + 1, _, by omega, by go_num, HN⟩, by simp [intOf]; omega⟩
      · have HN := Lib.hid (And.intro HI.out.1 HI.out.2.more)
        by_cases hd1 : 0 ≤ xd
        · have hd2 : ¬ xd ≤ 6 := fun h => hd ⟨hd1, h⟩
          clear hd c1 c2 c3 c4
          go_wp2_with fail
          exact ⟨⟨i + 1, d, by omega, by go_num, HN⟩, by simp [intOf]; omega⟩
        · clear hd c1 c2 c3 c4
          go_wp2_with fail
          exact ⟨⟨i + 1, d, by omega, by go_num, HN⟩, by simp [intOf]; omega⟩
    · obtain rfl : i = l.length := by omega
      clear hlt
      have LS := Lib.hid (show Lab w wr ((fuseT none none).star ((simT s none d).star emp)) from HI.out.1.ent (.star (.refl _) (.star (.refl _) (.trans .right .right))))
      have HLF := Lib.hid HI.out.2
      have hfl : d.fs.length ≤ 80 := by have := HI.out.2.few.len; omega
      have hft : tot d.fs ≤ 400000 := by have := HI.out.2.few.tot; omega
      go_wp2_with fail
      refine (Lab.files LS.out LS.out.right.left (by omega)).mono ?_; rintro e w5 ⟨v, rfl, hL⟩
      obtain ⟨ps, hps⟩ : ∃ ps, paths d.fs = ps := ⟨_, rfl⟩
      rw [hps] at hL
      obtain ⟨m, hm⟩ : ∃ m, ps.length = m := ⟨_, rfl⟩
      have hmd : d.fs.length = m := by rw [← hm, ← hps]; simp [paths]
      obtain ⟨va, vc, hu⟩ := Own.slice' (ownT.own hL.left)
      rw [pvs_len, hm] at hu
      subst hu
      have HPS := Lib.hid (And.intro hps (And.intro hm hmd))
      have hall : ∀ q ∈ ps, okP q = true ∧ (get q d.fs).isSome = true := fun q hq => by
        rw [← HPS.out.1] at hq
        obtain ⟨e, he, rfl⟩ := List.mem_map.1 hq
        exact ⟨HLF.out.ok e he, by rw [get_of_mem HLF.out.few.up (x := e.2) he]; rfl⟩
      have HALL := Lib.hid hall
      have hm80 : m ≤ 80 := by omega
      have L5 := Lib.hid (show CrI w w5 s d va vc m ps none 0 none 0 0 from ownT.nil 9 (ownT.nil 4 hL))
      clear hL hps hm hall
      go_wp2_with fail
      go_loopw [9, 10, 11] (fun v9 v10 v11 wq => ∃ (i : Nat) (da : Option Addr) (dc : Nat) (sa : Option Addr) (sc : Nat), i ≤ m ∧ v11 = .int .i64 (i : Nat) ∧ v9 = .slice da i dc ∧ v10 = .slice sa i sc ∧ Hid (CrI w wq s d va vc m ps da dc sa sc i)) (fun _ _ v11 _ => (m - intOf v11).toNat)
      case atStart => exact ⟨0, _, _, _, _, by omega, rfl, rfl, rfl, L5⟩
      case round =>
        obtain ⟨i, da, dc, sa, sc, hi, rfl, rfl, rfl, HC⟩ := hrel
        by_cases hlt : i < m
        · have hlt' : (i : Int) < (m : Int) := by omega
          obtain ⟨b2, o2, e2, p0⟩ := Strs.at (ownT.own HC.out.right.right.left) (j := i) (by have := HPS.out.2.1; omega)
          cases e2
          have hpi : ps[i]? = some (ps[i]'(by have := HPS.out.2.1; omega)) := List.getElem?_eq_getElem _
          obtain ⟨q, hq⟩ : ∃ q, ps[i]'(by have := HPS.out.2.1; omega) = q := ⟨_, rfl⟩
          rw [hq] at p0 hpi
          have HQ := Lib.hid (And.intro hpi (HALL.out q (by rw [← hq]; exact List.getElem_mem _)))
          clear hpi hq
          go_wp2_with fail
          refine (Lab.look2 HC.out HC.out.right.right.right.right.left q (Nat.le_trans (okP_le HQ.out.2.1) (by decide)) (by omega)).mono ?_; rintro e w6 ⟨u, rfl, hL⟩
          obtain ⟨ua, uc, hu⟩ := Own.slice' (ownT.own hL.left)
          rw [bvs_len] at hu
          subst hu
          have y1 := str_conv (ownT.own hL.left).cells w6 (Ext.refl _)
          have L6 := Lib.hid hL.right
          have HDL := Lib.hid (show (crd d ps i).length = i ∧ (crs d ps i).length = i by have := HPS.out.2.1; unfold crd crs; simp [pvs]; omega)
          have HDN := Lib.hid (show crd d ps i ++ [.string (bstr (lookb q d.fs))] = crd d ps (i + 1) ∧ crs d ps i ++ [.bool (looks q d.fs)] = crs d ps (i + 1) by
            unfold crd crs pvs
            rw [List.take_add_one, HQ.out.1]
            simp)
          clear hL
          go_wp2_with (first | (at_builtin; refine list_of_wp rfl fun K hK => wp_lapp1 _ _ 39 9 (.string ByteArray.empty) 16 rfl Try.underlying39 info_str rfl (by decide) rfl rfl rfl (by rw [HDL.out.1]) L6.out rfl (by rw [HDL.out.1]; omega) fun ad c2 w7 hL => hK _ _ ?_; clear hK) | (at_builtin; refine list_of_wp rfl fun K hK => wp_lapp1 _ _ 65 4 (.bool false) 1 rfl Try.underlying65 info_bo rfl (by decide) rfl rfl rfl (by rw [HDL.out.2]) hL.swap rfl (by rw [HDL.out.2]; omega) fun ad2 c3 w8 hL8 => hK _ _ ?_; clear hK))
          rw [HDN.out.1, HDN.out.2] at hL8
          have HN := Lib.hid (show CrI w w8 s d (some ⟨b2, o2, none⟩) vc m ps ad c2 ad2 c3 (i + 1) from hL8.swap)
          clear hL hL8
          exact ⟨⟨i + 1, ad, c2, ad2, c3, by omega, by go_num, rfl, rfl, HN⟩, by simp [intOf]; omega⟩
        · obtain rfl : m = i := by omega
          clear hlt
          have LC := Lib.hid HC.out.fifth
          go_wp2_with fail
          refine (LC.out.crash keep HK.out (by omega)).mono ?_; rintro e w6 ⟨rfl, hL⟩
          obtain ⟨d2, hd2⟩ : ∃ d2, d.crash keep = d2 := ⟨_, rfl⟩
          rw [hd2] at hL
          have hf2 : d2.fs = mapv (cutf keep.toNat) d.fs := by rw [← hd2]; rfl
          have hp2 : paths d2.fs = ps := by rw [hf2, ← HPS.out.1]; unfold paths mapv; rw [List.map_map]; rfl
          have hl2 : d2.fs.length ≤ 80 := by rw [hf2, mapv_length]; omega
          have ht2 : tot d2.fs ≤ 400000 := Nat.le_trans (by rw [hf2]; exact tot_cut _ _) hft
          have HF2 := Lib.hid hf2
          have L6 := Lib.hid hL
          clear hL hd2 hf2
          go_wp2_with fail
          refine (Lab.files L6.out L6.out.left (by omega)).mono ?_; rintro e w7 ⟨v2, rfl, hL⟩
          rw [hp2] at hL
          obtain ⟨xa, xc, hu⟩ := Own.slice' (ownT.own hL.left)
          rw [pvs_len, HPS.out.2.1] at hu
          subst hu
          have L7 := Lib.hid hL
          clear hL hp2
          go_wp2_with fail
          refine (texts_same _ _ ps _ (ownT.own L7.out.right.right.right.right.left) (ownT.own L7.out.left) (by rw [HPS.out.2.1]; unfold maxLen; omega)).mono ?_; rintro e w8 ⟨rfl, x8⟩
          have L8 := Lib.hid (L7.out.ext x8)
          clear x8
          go_wp2_with fail
          obtain ⟨d0, hd0⟩ : ∃ d0, d = d0 := ⟨_, rfl⟩
          go_loopw [16] (fun v16 wq => ∃ i : Nat, i ≤ m ∧ v16 = .int .i64 (i : Nat) ∧ Hid (CrJ w wq s d d2 va vc xa xc m ps da dc sa sc)) (fun v16 _ => (m - intOf v16).toNat)
          case atStart => exact ⟨0, by omega, rfl, L8⟩
          case round =>
            obtain ⟨i, hi, rfl, HJ⟩ := hrel
            by_cases hlt : i < m
            · have hlt' : (i : Int) < (m : Int) := by omega
              obtain ⟨b2, o2, e2, p0⟩ := Strs.at (ownT.own HJ.out.left) (j := i) (by have := HPS.out.2.1; omega)
              cases e2
              have hpi : ps[i]? = some (ps[i]'(by have := HPS.out.2.1; omega)) := List.getElem?_eq_getElem _
              obtain ⟨q, hq⟩ : ∃ q, ps[i]'(by have := HPS.out.2.1; omega) = q := ⟨_, rfl⟩
              rw [hq] at p0 hpi
              have HQ := Lib.hid (And.intro hpi (HALL.out q (by rw [← hq]; exact List.getElem_mem _)))
              clear hpi hq
              obtain ⟨f, hf⟩ := Option.isSome_iff_exists.1 HQ.out.2.2
              have hf2 : get q d2.fs = some (cutf keep.toNat f) := by rw [HF2.out, get_mapv, hf]; rfl
              obtain ⟨bb, hbb⟩ : ∃ bb, (cutf keep.toNat f).b = bb := ⟨_, rfl⟩
              have hcut := cut_facts keep.toNat f
              rw [hbb] at hcut
              have HCUT := Lib.hid hcut
              have HLK := Lib.hid (show lookb q d2.fs = bb ∧ looks q d2.fs = true ∧ (get q d2.fs).isSome = true by unfold lookb looks; rw [hf2]; exact ⟨hbb, hcut.1, rfl⟩)
              have hdi : (crd d ps m)[i]? = some (.string (bstr f.b)) := by
                unfold crd pvs
                rw [List.getElem?_map, List.getElem?_map, List.getElem?_take_of_lt hlt, HQ.out.1]
                simp only [Option.map_some]
                unfold lookb; rw [hf]
              have hsi : (crs d ps m)[i]? = some (.bool f.sure) := by
                unfold crs
                rw [List.getElem?_map, List.getElem?_take_of_lt hlt, HQ.out.1]
                simp only [Option.map_some]
                unfold looks; rw [hf]
              have HDI := Lib.hid (And.intro hdi hsi)
              clear hf hf2 hbb hcut hdi hsi
              go_wp2_with fail
              refine (Lab.look2 HJ.out HJ.out.right.left q (Nat.le_trans (okP_le HQ.out.2.1) (by decide)) (by omega)).mono ?_
              rw [HLK.out.1, HLK.out.2.1, HLK.out.2.2]; rintro e w9 ⟨u, rfl, hL⟩
              obtain ⟨ua, uc, hu⟩ := Own.slice' (ownT.own hL.left)
              rw [bvs_len] at hu
              subst hu
              have y0 := str_conv (ownT.own hL.left).cells
              have y1 : ∀ n, (convert 30 9 (.slice ua bb.length uc)).run Try.prog (w9.drewN n) = .ok (.string (bstr bb)) (w9.drewN n) := fun n => y0 _ (Ext.of_drawn w9 n)
              obtain ⟨db, dob, rfl, dd⟩ := Cells.at (ownT.own hL.right.right.right.left).cells HDI.out.1
              obtain ⟨sb, sob, rfl, ss⟩ := Cells.at (ownT.own hL.right.right.right.right.left).cells HDI.out.2
              have HN := Lib.hid hL.right
              obtain ⟨fb, hfb⟩ : ∃ fb, f.b = fb := ⟨_, rfl⟩
              rw [hfb] at dd HCUT
              obtain ⟨sv, hsv⟩ : ∃ sv, f.sure = sv := ⟨_, rfl⟩
              rw [hsv] at ss HCUT
              have z1 : ¬ (fb.length : Int) < (bb.length : Int) := by have := HCUT.out.2.1; omega
              have z2 : bb.length ≤ fb.length := HCUT.out.2.1
              have z3 : (bstr fb).extract 0 bb.length = bstr bb := HCUT.out.2.2.1
              have z6 : decide (fb.length < bb.length) = false := by have := HCUT.out.2.1; simpa using this
              have z4 : (bb.length : Int) ≤ (fb.length : Int) := by omega
              clear hL hfb hsv y0
              cases sv with
              | false =>
                go_wp2_with fail
                go_quiet (fail)
                have HN2 := Lib.hid (HN.out.ext (Ext.of_drawn w9 nq))
                clear dd ss y1
                go_wp2_with fail
                exact ⟨⟨i + 1, by omega, by go_num, HN2⟩, by simp [intOf]; omega⟩
              | true =>
                have z5 : bb.length = fb.length := HCUT.out.2.2.2 rfl
                rw [z5] at y1 z3 ⊢
                clear z1 z2 z4 z6 z5
                have z1 : ¬ (fb.length : Int) < (fb.length : Int) := by omega
                have z2 : fb.length ≤ fb.length := Nat.le_refl _
                have z6 : decide (fb.length < fb.length) = false := by simp
                go_wp2_with fail
                go_quiet (fail)
                have HN2 := Lib.hid (HN.out.ext (Ext.of_drawn w9 nq))
                clear dd ss y1
                go_wp2_with fail
                exact ⟨⟨i + 1, by omega, by go_num, HN2⟩, by simp [intOf]; omega⟩
            · obtain rfl : m = i := by omega
              clear hlt
              go_wp2_with fail
              go_ret
              exact ⟨rfl, HJ.out.toExt⟩
end Go.Proofs.Ytnphkddhckcpmaa
