/-
  DiskRename: the walk.
-/
import Derived.Test.YtnphkddhckcpmaaDkRp
import Derived.BigQuiet
namespace Go.Proofs.Ytnphkddhckcpmaa
open Go.RowKit Dk
set_option maxRecDepth 100000
set_option maxHeartbeats 4000000
attribute [local go_sem] min_int2 max_int2 bstr_toList bstr_size

theorem rename_law (w : World) (v : Value) (l : List Deed) (hV : Deeds w v l) (hl : l.length ≤ maxLen) (n0 n1 : UInt8) :
    Calls Try.prog 10 #[v, .agg #[bv n0, bv n1]] w fun e w' => e = .returned (.bool true) ∧ Ext w w' := by
  obtain ⟨a, c, rfl⟩ := hV.form
  have HV := Lib.hid hV
  have HL := Lib.hid hl
  clear hV hl
  go_enter Try.func10, Try.ntmps10
  go_wp2_with fail
  refine (dawake_any _).mono ?_; rintro e w1 ⟨rfl, x1⟩
  obtain ⟨nb, hnb⟩ : ∃ nb, w.heap.size = nb := ⟨_, rfl⟩
  have hx0 : Ext w (w.alloc (.cells #[bv n0, bv n1] 66)) := (Ext.refl w).alloc (Nat.le_refl _) _
  have LY0 := Lib.hid (((Lab.start w).new hx0 (X := rowT nb 66 #[bv n0, bv n1]) (T := fun b => nb = b) ⟨by rw [← hnb]; exact Row.new w 66 #[bv n0, bv n1], fun _ => Iff.rfl⟩ (fun _ hb => by rw [hnb]; exact Nat.le_of_eq hb)).ext x1)
  replace x1 := Ext.trans hx0 x1
  rw [hnb]
  clear hx0 hnb
  have HV1 := Lib.hid (HV.out.ext x1)
  have X1 := Lib.hid x1
  have LY := Lib.hid (show Lab w w1 ((rowT nb 66 #[bv n0, bv n1]).star emp) from LY0.out)
  clear x1
  go_wp2_with fail
  by_cases hR : l.length ≤ 40 ∧ ∀ x ∈ l, x.small
  case neg =>
    have HR := Lib.hid hR
    clear hR
    refine (room_any _ l 40 false (by omega) ⟨(fun h => Bool.noConfusion h), fun h => absurd h HR.out⟩ HL.out _ HV1.out).mono ?_; rintro e w' ⟨rfl, rfl⟩
    go_wp2_with fail
    go_ret
    exact ⟨rfl, X1.out⟩
  have HR := Lib.hid hR
  have hl40 : l.length ≤ 40 := hR.1
  clear hR
  refine (room_any _ l 40 true (by omega) ⟨fun _ => HR.out, fun _ => rfl⟩ HL.out _ HV1.out).mono ?_; rintro e w' ⟨rfl, rfl⟩
  go_wp2_with fail
  refine (Lab.newdisk 100000 (LY.out.nofuse)).mono ?_; rintro e w2 ⟨s, rfl, hL⟩
  have L2 := Lib.hid (show Lab w w2 ((fuseT none none).star ((simT s none ⟨100000, false, 0, []⟩).star ((rowT nb 66 #[bv n0, bv n1]).star emp))) from hL)
  clear hL
  go_wp2_with fail
  refine (Lab.newref 100000 L2.out.rnofuse).mono ?_; rintro e w3 ⟨r, rfl, hL⟩
  have L3 := Lib.hid (show Lab w w3 ((rfuseT none none).star ((refT r none ⟨100000, false, 0, []⟩).star ((fuseT none none).star ((simT s none ⟨100000, false, 0, []⟩).star ((rowT nb 66 #[bv n0, bv n1]).star emp))))) from hL)
  clear hL L2
  have LI := Lib.hid (And.intro L3.out.flip (Life.start 100000))
  clear L3
  go_wp2_with fail
  go_loopw [7] (fun v7 wr => ∃ (i : Nat) (d : DS), i ≤ l.length ∧ v7 = .int .i64 (i : Nat) ∧ Hid (Lab w wr ((fuseT none none).star ((simT s none d).star ((rfuseT none none).star ((refT r none d).star ((rowT nb 66 #[bv n0, bv n1]).star emp))))) ∧ Life 100000 d i)) (fun v7 _ => (l.length - intOf v7).toNat)
  case atStart => exact ⟨0, _, by omega, rfl, LI⟩
  case round =>
    obtain ⟨i, d, hi, rfl, HI⟩ := hrel
    by_cases hlt : i < l.length
    · have hlt' : (i : Int) < (l.length : Int) := by omega
      have hx : l[i]? = some l[i] := List.getElem?_eq_getElem hlt
      have hsm := HR.out.2 _ (List.getElem_mem hlt)
      obtain ⟨x, hxx⟩ : ∃ x, l[i] = x := ⟨_, rfl⟩
      rw [hxx] at hx hsm
      obtain ⟨ok, b, o, rfl, da, dc, c0, c1, c2, c3, c4, c5⟩ := HV.out.at hx
      have HD := Lib.hid (And.intro ok (And.intro c5 hsm))
      replace c0 := HI.out.1.toExt.cell c0
      replace c1 := HI.out.1.toExt.cell c1
      replace c2 := HI.out.1.toExt.cell c2
      replace c3 := HI.out.1.toExt.cell c3
      replace c4 := HI.out.1.toExt.cell c4
      clear ok c5 hsm hx hxx
      obtain ⟨xd, xn, xa, xb, xt⟩ := x
      simp only at c0 c1 c2 c3 c4 HD
      by_cases hd : 0 ≤ xd ∧ xd ≤ 6
      · obtain ⟨hd1, hd2⟩ := hd
        have hfl := HI.out.2.few.len
        have hft := HI.out.2.few.tot
        go_wp2_with fail
        refine (both_any w wr ((rowT nb 66 #[bv n0, bv n1]).star emp) s r none none _ none d ⟨xd, xn, xa, xb, xt⟩ da dc HI.out.1 ⟨hd1, hd2⟩ (Nat.le_trans HD.out.2.2.1 (by decide)) (Nat.le_trans HD.out.2.2.2.1 (by decide)) HD.out.2.1 (Nat.le_trans HD.out.2.2.2.2 (by decide)) (by decide) (by omega) (by omega)).mono ?_; rintro e w4 ⟨rfl, hL⟩
        have hst := HI.out.2.step (x := ⟨xd, xn, xa, xb, xt⟩) HD.out.2.2.2.2
        rw [hst.1] at hL
        have HN := Lib.hid (And.intro hL hst.2)
        clear hL hst hfl hft c0 c1 c2 c3 c4
        go_wp2_with fail
        exact ⟨⟨i + 1, _, by omega, by go_num, HN⟩, by simp [intOf]; omega⟩
      · have HN := Lib.hid (And.intro HI.out.1 HI.out.2.more)
        by_cases hd1 : 0 ≤ xd
        · have hd2 : ¬ xd ≤ 6 := fun h => hd ⟨hd1, h⟩
          clear hd c1 c2 c3 c4
          go_wp2_with fail
          exact ⟨⟨i + 1, d, by omega, by go_num, HN⟩, by simp [intOf]; omega⟩
        · clear hd c1 c2 c3 c4
          go_wp2_with fail
          exact ⟨⟨i + 1, d, by omega, by go_num, HN⟩, by simp [intOf]; omega⟩
    · obtain rfl : i = l.length := by omega
      clear hlt
      have LS := Lib.hid (show Lab w wr ((fuseT none none).star ((simT s none d).star ((rowT nb 66 #[bv n0, bv n1]).star emp))) from HI.out.1.ent (.star (.refl _) (.star (.refl _) (.trans .right .right))))
      have HLF := Lib.hid HI.out.2
      have hfl : d.fs.length ≤ 40 := by have := HI.out.2.few.len; omega
      have hft : tot d.fs ≤ 400000 := by have := HI.out.2.few.tot; omega
      go_wp2_with fail
      refine (Lab.files LS.out LS.out.right.left (by omega)).mono ?_; rintro e w5 ⟨v, rfl, hL⟩
      obtain ⟨ps, hps⟩ : ∃ ps, paths d.fs = ps := ⟨_, rfl⟩
      rw [hps] at hL
      obtain ⟨m, hm⟩ : ∃ m, ps.length = m := ⟨_, rfl⟩
      have hmd : d.fs.length = m := by rw [← hm, ← hps]; simp [paths]
      obtain ⟨va, vc, hu⟩ := Own.slice' (ownT.own hL.left)
      rw [pvs_len, hm] at hu
      subst hu
      have LF := Lib.hid hL
      clear hL
      have HPS := Lib.hid (And.intro hps (And.intro hm hmd))
      clear hps hm
      by_cases hm0 : m = 0
      · have hnil : d.fs = [] := List.eq_nil_of_length_eq_zero (by omega)
        have hop : opens none d [120] [] = 6 ∧ renames none d [120] [121] = (6, none, d) ∧ begins none d [[120]] = (0, none, d) := by
          have h1 := calm_opens HLF.out.calm [120] []
          have h2 := calm_opens HLF.out.calm [120] [[121]]
          rw [hnil] at h1 h2
          refine ⟨h1, ?_, calm_begins2 HLF.out.calm [[120]]⟩
          unfold renames
          rw [h2, calm_begins2 HLF.out.calm]
          rfl
        have HOP := Lib.hid hop
        subst hm0
        clear hnil hop
        go_wp2_with fail
        refine (LF.out.third'.read [120] (by decide) (by decide) (by omega)).mono ?_
        rw [HOP.out.1, HOP.out.2.2]; rintro e w6 ⟨u, rfl, hL⟩
        have L6 := Lib.hid hL.right
        clear hL
        go_wp2_with fail
        refine (L6.out.rename [120] [121] (by decide) (by decide) (by decide) (by omega)).mono ?_
        rw [HOP.out.2.1]; rintro e w7 ⟨rfl, hL⟩
        have L7 := Lib.hid hL
        clear hL
        go_wp2_with fail
        go_ret
        exact ⟨rfl, L7.out.toExt⟩
      have hrow := rowT.row LF.out.right.right.right.left
      have b0 := hrow.cell (i := 0) (v := bv n0) rfl
      have b1 := hrow.cell (i := 1) (v := bv n1) rfl
      have hn0 := n0.toNat_lt
      have hn1 := n1.toNat_lt
      have ek0 : Go.RowKit.wrap64 (n0.toNat : Int) = (n0.toNat : Int) := by unfold Go.RowKit.wrap64; omega
      have ek1 : Go.RowKit.wrap64 (n1.toNat : Int) = (n1.toNat : Int) := by unfold Go.RowKit.wrap64; omega
      obtain ⟨k0, hk0⟩ : ∃ k, n0.toNat % m = k := ⟨_, rfl⟩
      obtain ⟨k1, hk1⟩ : ∃ k, n1.toNat % m = k := ⟨_, rfl⟩
      have et0 : ((n0.toNat : Nat) : Int).tmod (m : Int) = (k0 : Int) := by rw [← hk0]; exact (Int.ofNat_tmod _ _).symm
      have et1 : ((n1.toNat : Nat) : Int).tmod (m : Int) = (k1 : Int) := by rw [← hk1]; exact (Int.ofNat_tmod _ _).symm
      have hk0m : k0 < m := by rw [← hk0]; exact Nat.mod_lt _ (by omega)
      have hk1m : k1 < m := by rw [← hk1]; exact Nat.mod_lt _ (by omega)
      have hk0i : (k0 : Int) < (m : Int) := by omega
      have hk1i : (k1 : Int) < (m : Int) := by omega
      have hmi : ¬ (m : Int) = 0 := by omega
      have hmq : ((m : Int) == 0) = false := by simpa using hm0
      obtain ⟨b2, o2, e2, p0⟩ := Strs.at (ownT.own LF.out.left) (j := k0) (by have := HPS.out.2.1; omega)
      cases e2
      obtain ⟨b3, o3, e3, p1⟩ := Strs.at (ownT.own LF.out.left) (j := k1) (by have := HPS.out.2.1; omega)
      cases e3
      have hall : ∀ q ∈ ps, okP q = true ∧ (get q d.fs).isSome = true := fun q hq => by
        rw [← HPS.out.1] at hq
        obtain ⟨e, he, rfl⟩ := List.mem_map.1 hq
        exact ⟨HLF.out.ok e he, by rw [get_of_mem HLF.out.few.up (x := e.2) he]; rfl⟩
      obtain ⟨q0, hq0⟩ : ∃ q, ps[k0]'(by have := HPS.out.2.1; omega) = q := ⟨_, rfl⟩
      obtain ⟨q2, hq2⟩ : ∃ q, ps[k1]'(by have := HPS.out.2.1; omega) = q := ⟨_, rfl⟩
      rw [hq0] at p0
      rw [hq2] at p1
      have HQ0 := Lib.hid (hall q0 (by rw [← hq0]; exact List.getElem_mem _))
      have HQ2 := Lib.hid (hall q2 (by rw [← hq2]; exact List.getElem_mem _)).1
      clear hrow hn0 hn1 hk0 hk1 hall hq0 hq2
      obtain ⟨bt, hbt⟩ : ∃ bt, bits .and .u8 (n1.toNat : Int) 128 = bt := ⟨_, rfl⟩
      by_cases hb128 : bt = 128
      · have q9 : (bt == 128) = true := by simpa using hb128
        clear hb128
        go_wp2_with fail
        obtain ⟨q1, hq1⟩ : ∃ q : Path, q = [110, 101, 119] := ⟨_, rfl⟩
        rw [show (({ data := #[110, 101, 119] } : ByteArray)) = bstr q1 by rw [hq1]; rfl]
        have HQ1 := Lib.hid (show okP q1 = true by rw [hq1]; rfl)
        clear hq1 HQ2 p0 p1 b0 b1 ek0 ek1 et0 et1
        have hg0 : ∃ f0, get q0 d.fs = some f0 := Option.isSome_iff_exists.1 HQ0.out.2
        obtain ⟨f0, hf0⟩ := hg0
        have HG0 := Lib.hid hf0
        clear hf0
        refine (Lab.look2 LF.out LF.out.right.right.left q0 (Nat.le_trans (okP_le HQ0.out.1) (by decide)) (by omega)).mono ?_
        rw [show lookb q0 d.fs = f0.b by unfold lookb; rw [HG0.out], show looks q0 d.fs = f0.sure by unfold looks; rw [HG0.out], show (Dk.get q0 d.fs).isSome = true by rw [HG0.out]; rfl]
        rintro e w6 ⟨ub, rfl, hL⟩
        obtain ⟨ba, bc, hu⟩ := Own.slice' (ownT.own hL.left)
        rw [bvs_len] at hu
        subst hu
        have L6 := Lib.hid hL
        clear hL
        go_wp2_with fail
        refine (Lab.used L6.out L6.out.right.right.right.left (by omega)).mono ?_; rintro e w7 ⟨rfl, hL⟩
        have L7 := Lib.hid hL
        clear hL
        go_wp2_with fail
        obtain ⟨ob, hob⟩ : ∃ ob, lookb q1 d.fs = ob := ⟨_, rfl⟩
        obtain ⟨os, hos⟩ : ∃ os, looks q1 d.fs = os := ⟨_, rfl⟩
        obtain ⟨th, hth⟩ : ∃ th, (Dk.get q1 d.fs).isSome = th := ⟨_, rfl⟩
        refine (Lab.look2 L7.out L7.out.right.right.right.left q1 (Nat.le_trans (okP_le HQ1.out) (by decide)) (by omega)).mono ?_
        rw [hob, hos, hth]
        rintro e w8 ⟨uo, rfl, hL⟩
        obtain ⟨oa, oc, hu⟩ := Own.slice' (ownT.own hL.left)
        rw [bvs_len] at hu
        subst hu
        have L8 := Lib.hid hL
        have hmv := HLF.out.move HQ1.out HG0.out
        have hgt := moved_get HLF.out.few.up (q := q1) HG0.out
        have hol : olen q1 d.fs = ob.length := by
          unfold olen
          rw [← hob]
          unfold lookb
          cases Dk.get q1 d.fs <;> rfl
        have hob0 : th = false → ob = [] := fun h => by
          rw [← hob]
          unfold lookb
          cases hg : Dk.get q1 d.fs with
          | none => rfl
          | some f => rw [hg] at hth; rw [← hth] at h; cases h
        rw [hol] at hmv
        obtain ⟨d2, hd2⟩ : ∃ d2 : DS, { d with fs := moved q0 q1 f0 d.fs } = d2 := ⟨_, rfl⟩
        have hrn := calm_renames HLF.out HQ0.out.1 HQ1.out HG0.out
        rw [hd2] at hrn
        have hf2 : d2.fs = moved q0 q1 f0 d.fs := by rw [← hd2]
        have hobl : ob.length ≤ tot d.fs := by rw [← hol]; exact olen_le q1 d.fs
        rw [← hf2] at hgt hmv
        have ht2 : tot d2.fs ≤ 400000 := by have := hmv.2; omega
        have hl2 : d2.fs.length ≤ 41 := by have h3 : d2.fs.length ≤ l.length + 1 := hmv.1.few.len; omega
        have HMV := Lib.hid (And.intro hmv.2 (And.intro hgt (And.intro hrn hob0)))
        clear hL hob hos hth hmv hgt hol hd2 hrn hf2 hob0
        go_wp2_with fail
        refine (Lab.rename L8.out.front2 q0 q1 (by decide) (Nat.le_trans (okP_le HQ0.out.1) (by decide)) (Nat.le_trans (okP_le HQ1.out) (by decide)) (by omega)).mono ?_
        rw [HMV.out.2.2.1]; rintro e w9 ⟨rfl, hL⟩
        have L9 := Lib.hid hL
        clear hL
        go_wp2_with fail
        refine (Lab.look2 L9.out L9.out.right.left q1 (Nat.le_trans (okP_le HQ1.out) (by decide)) (by omega)).mono ?_
        rw [show lookb q1 d2.fs = f0.b by unfold lookb; rw [HMV.out.2.1.1], show looks q1 d2.fs = f0.sure by unfold looks; rw [HMV.out.2.1.1], show (Dk.get q1 d2.fs).isSome = true by rw [HMV.out.2.1.1]; rfl]
        rintro e wa ⟨uc, rfl, hL⟩
        obtain ⟨ca, cc, hu⟩ := Own.slice' (ownT.own hL.left)
        rw [bvs_len] at hu
        subst hu
        have La := Lib.hid hL
        clear hL
        go_wp2_with fail
        refine (Lab.look2 La.out La.out.right.right.left q0 (Nat.le_trans (okP_le HQ0.out.1) (by decide)) (by omega)).mono ?_
        rw [HMV.out.2.1.2]
        rintro e wb ⟨ud, rfl, hL⟩
        have Lb := Lib.hid hL.right
        clear hL
        have y1 := str_conv (ownT.own Lb.out.left).cells wb (Ext.refl _)
        have y2 := str_conv (ownT.own Lb.out.right.right.right.right.left).cells wb (Ext.refl _)
        obtain ⟨qe, hqe⟩ : ∃ qe, (q0 == q1) = qe := ⟨_, rfl⟩
        rw [hqe]
        have HQE := Lib.hid hqe
        obtain ⟨fb, hfb⟩ : ∃ fb, f0.b = fb := ⟨_, rfl⟩
        rw [hfb] at y1 y2 ⊢
        obtain ⟨sv, hsv⟩ : ∃ sv, f0.sure = sv := ⟨_, rfl⟩
        rw [hsv]
        obtain ⟨t, ht⟩ : ∃ t, tot d.fs = t := ⟨_, rfl⟩
        rw [ht]
        have HT := Lib.hid ht
        have htb : t ≤ 400000 := by omega
        rw [ht] at hobl
        obtain ⟨ol, hol⟩ : ∃ ol, ob.length = ol := ⟨_, rfl⟩
        rw [hol] at hobl ⊢
        have HOL := Lib.hid hol
        have hsame : q0 = q1 ↔ qe = true := by rw [← hqe]; simp
        have HSM := Lib.hid hsame
        clear hfb hsv ht hol hsame
        cases th with
        | false =>
          have hfin : tot d2.fs = t := by
            have h1 := HMV.out.1
            rw [HOL.out, HT.out] at h1
            have h2 : ol = 0 := by rw [← HOL.out, HMV.out.2.2.2 rfl]; rfl
            rw [h2] at h1
            simpa using h1
          have HFIN := Lib.hid hfin
          clear hfin
          go_wp2_with fail
          refine (Lab.used Lb.out Lb.out.right.right.left (by omega)).mono ?_; rintro e wc ⟨rfl, hL⟩
          have Lc := Lib.hid hL
          rw [HFIN.out]
          clear hL
          go_wp2_with fail
          go_ret
          exact ⟨rfl, Lc.out.toExt⟩
        | true =>
          cases qe with
          | true =>
            have hfin : tot d2.fs = t := by
              have h1 := HMV.out.1
              rw [if_pos (HSM.out.2 rfl), HT.out] at h1
              exact h1
            have HFIN := Lib.hid hfin
            clear hfin
            go_wp2_with fail
            refine (Lab.used Lb.out Lb.out.right.right.left (by omega)).mono ?_; rintro e wc ⟨rfl, hL⟩
            have Lc := Lib.hid hL
            rw [HFIN.out]
            clear hL
            go_wp2_with fail
            go_ret
            exact ⟨rfl, Lc.out.toExt⟩
          | false =>
            have hfin : ((t : Nat) : Int) - (ol : Int) = ((tot d2.fs : Nat) : Int) := by
              have h1 := HMV.out.1
              rw [if_neg (fun h => by have := HSM.out.1 h; cases this), HT.out, HOL.out] at h1
              omega
            go_wp2_with fail
            refine (Lab.used Lb.out Lb.out.right.right.left (by omega)).mono ?_; rintro e wc ⟨rfl, hL⟩
            have Lc := Lib.hid hL
            clear hL
            go_wp2_with fail
            go_ret
            exact ⟨rfl, Lc.out.toExt⟩
      · have q9 : (bt == 128) = false := by simpa using hb128
        clear hb128
        go_wp2_with fail
        obtain ⟨q1, hq1⟩ : ∃ q : Path, q = q2 := ⟨_, rfl⟩
        rw [← hq1]
        have HQ1 := Lib.hid (show okP q1 = true by rw [hq1]; exact HQ2.out)
        clear hq1 HQ2 p0 p1 b0 b1 ek0 ek1 et0 et1
        have hg0 : ∃ f0, get q0 d.fs = some f0 := Option.isSome_iff_exists.1 HQ0.out.2
        obtain ⟨f0, hf0⟩ := hg0
        have HG0 := Lib.hid hf0
        clear hf0
        refine (Lab.look2 LF.out LF.out.right.right.left q0 (Nat.le_trans (okP_le HQ0.out.1) (by decide)) (by omega)).mono ?_
        rw [show lookb q0 d.fs = f0.b by unfold lookb; rw [HG0.out], show looks q0 d.fs = f0.sure by unfold looks; rw [HG0.out], show (Dk.get q0 d.fs).isSome = true by rw [HG0.out]; rfl]
        rintro e w6 ⟨ub, rfl, hL⟩
        obtain ⟨ba, bc, hu⟩ := Own.slice' (ownT.own hL.left)
        rw [bvs_len] at hu
        subst hu
        have L6 := Lib.hid hL
        clear hL
        go_wp2_with fail
        refine (Lab.used L6.out L6.out.right.right.right.left (by omega)).mono ?_; rintro e w7 ⟨rfl, hL⟩
        have L7 := Lib.hid hL
        clear hL
        go_wp2_with fail
        obtain ⟨ob, hob⟩ : ∃ ob, lookb q1 d.fs = ob := ⟨_, rfl⟩
        obtain ⟨os, hos⟩ : ∃ os, looks q1 d.fs = os := ⟨_, rfl⟩
        obtain ⟨th, hth⟩ : ∃ th, (Dk.get q1 d.fs).isSome = th := ⟨_, rfl⟩
        refine (Lab.look2 L7.out L7.out.right.right.right.left q1 (Nat.le_trans (okP_le HQ1.out) (by decide)) (by omega)).mono ?_
        rw [hob, hos, hth]
        rintro e w8 ⟨uo, rfl, hL⟩
        obtain ⟨oa, oc, hu⟩ := Own.slice' (ownT.own hL.left)
        rw [bvs_len] at hu
        subst hu
        have L8 := Lib.hid hL
        have hmv := HLF.out.move HQ1.out HG0.out
        have hgt := moved_get HLF.out.few.up (q := q1) HG0.out
        have hol : olen q1 d.fs = ob.length := by
          unfold olen
          rw [← hob]
          unfold lookb
          cases Dk.get q1 d.fs <;> rfl
        have hob0 : th = false → ob = [] := fun h => by
          rw [← hob]
          unfold lookb
          cases hg : Dk.get q1 d.fs with
          | none => rfl
          | some f => rw [hg] at hth; rw [← hth] at h; cases h
        rw [hol] at hmv
        obtain ⟨d2, hd2⟩ : ∃ d2 : DS, { d with fs := moved q0 q1 f0 d.fs } = d2 := ⟨_, rfl⟩
        have hrn := calm_renames HLF.out HQ0.out.1 HQ1.out HG0.out
        rw [hd2] at hrn
        have hf2 : d2.fs = moved q0 q1 f0 d.fs := by rw [← hd2]
        have hobl : ob.length ≤ tot d.fs := by rw [← hol]; exact olen_le q1 d.fs
        rw [← hf2] at hgt hmv
        have ht2 : tot d2.fs ≤ 400000 := by have := hmv.2; omega
        have hl2 : d2.fs.length ≤ 41 := by have h3 : d2.fs.length ≤ l.length + 1 := hmv.1.few.len; omega
        have HMV := Lib.hid (And.intro hmv.2 (And.intro hgt (And.intro hrn hob0)))
        clear hL hob hos hth hmv hgt hol hd2 hrn hf2 hob0
        go_wp2_with fail
        refine (Lab.rename L8.out.front2 q0 q1 (by decide) (Nat.le_trans (okP_le HQ0.out.1) (by decide)) (Nat.le_trans (okP_le HQ1.out) (by decide)) (by omega)).mono ?_
        rw [HMV.out.2.2.1]; rintro e w9 ⟨rfl, hL⟩
        have L9 := Lib.hid hL
        clear hL
        go_wp2_with fail
        refine (Lab.look2 L9.out L9.out.right.left q1 (Nat.le_trans (okP_le HQ1.out) (by decide)) (by omega)).mono ?_
        rw [show lookb q1 d2.fs = f0.b by unfold lookb; rw [HMV.out.2.1.1], show looks q1 d2.fs = f0.sure by unfold looks; rw [HMV.out.2.1.1], show (Dk.get q1 d2.fs).isSome = true by rw [HMV.out.2.1.1]; rfl]
        rintro e wa ⟨uc, rfl, hL⟩
        obtain ⟨ca, cc, hu⟩ := Own.slice' (ownT.own hL.left)
        rw [bvs_len] at hu
        subst hu
        have La := Lib.hid hL
        clear hL
        go_wp2_with fail
        refine (Lab.look2 La.out La.out.right.right.left q0 (Nat.le_trans (okP_le HQ0.out.1) (by decide)) (by omega)).mono ?_
        rw [HMV.out.2.1.2]
        rintro e wb ⟨ud, rfl, hL⟩
        have Lb := Lib.hid hL.right
        clear hL
        have y1 := str_conv (ownT.own Lb.out.left).cells wb (Ext.refl _)
        have y2 := str_conv (ownT.own Lb.out.right.right.right.right.left).cells wb (Ext.refl _)
        obtain ⟨qe, hqe⟩ : ∃ qe, (q0 == q1) = qe := ⟨_, rfl⟩
        rw [hqe]
        have HQE := Lib.hid hqe
        obtain ⟨fb, hfb⟩ : ∃ fb, f0.b = fb := ⟨_, rfl⟩
        rw [hfb] at y1 y2 ⊢
        obtain ⟨sv, hsv⟩ : ∃ sv, f0.sure = sv := ⟨_, rfl⟩
        rw [hsv]
        obtain ⟨t, ht⟩ : ∃ t, tot d.fs = t := ⟨_, rfl⟩
        rw [ht]
        have HT := Lib.hid ht
        have htb : t ≤ 400000 := by omega
        rw [ht] at hobl
        obtain ⟨ol, hol⟩ : ∃ ol, ob.length = ol := ⟨_, rfl⟩
        rw [hol] at hobl ⊢
        have HOL := Lib.hid hol
        have hsame : q0 = q1 ↔ qe = true := by rw [← hqe]; simp
        have HSM := Lib.hid hsame
        clear hfb hsv ht hol hsame
        cases th with
        | false =>
          have hfin : tot d2.fs = t := by
            have h1 := HMV.out.1
            rw [HOL.out, HT.out] at h1
            have h2 : ol = 0 := by rw [← HOL.out, HMV.out.2.2.2 rfl]; rfl
            rw [h2] at h1
            simpa using h1
          have HFIN := Lib.hid hfin
          clear hfin
          go_wp2_with fail
          refine (Lab.used Lb.out Lb.out.right.right.left (by omega)).mono ?_; rintro e wc ⟨rfl, hL⟩
          have Lc := Lib.hid hL
          rw [HFIN.out]
          clear hL
          go_wp2_with fail
          go_ret
          exact ⟨rfl, Lc.out.toExt⟩
        | true =>
          cases qe with
          | true =>
            have hfin : tot d2.fs = t := by
              have h1 := HMV.out.1
              rw [if_pos (HSM.out.2 rfl), HT.out] at h1
              exact h1
            have HFIN := Lib.hid hfin
            clear hfin
            go_wp2_with fail
            refine (Lab.used Lb.out Lb.out.right.right.left (by omega)).mono ?_; rintro e wc ⟨rfl, hL⟩
            have Lc := Lib.hid hL
            rw [HFIN.out]
            clear hL
            go_wp2_with fail
            go_ret
            exact ⟨rfl, Lc.out.toExt⟩
          | false =>
            have hfin : ((t : Nat) : Int) - (ol : Int) = ((tot d2.fs : Nat) : Int) := by
              have h1 := HMV.out.1
              rw [if_neg (fun h => by have := HSM.out.1 h; cases this), HT.out, HOL.out] at h1
              omega
            go_wp2_with fail
            refine (Lab.used Lb.out Lb.out.right.right.left (by omega)).mono ?_; rintro e wc ⟨rfl, hL⟩
            have Lc := Lib.hid hL
            clear hL
            go_wp2_with fail
            go_ret
            exact ⟨rfl, Lc.out.toExt⟩
end Go.Proofs.Ytnphkddhckcpmaa
