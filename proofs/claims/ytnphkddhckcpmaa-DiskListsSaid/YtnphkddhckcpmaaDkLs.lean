/-
  DiskLists: the walk.
-/
import Derived.Test.YtnphkddhckcpmaaDkLp
import Derived.BigQuiet
namespace Go.Proofs.Ytnphkddhckcpmaa
open Go.RowKit Dk
set_option maxRecDepth 100000
set_option maxHeartbeats 4000000
attribute [local go_sem] min_int2 max_int2 bstr_toList bstr_size

theorem info_u8s : (Try.prog.info? 30).map (fun i => (i.zero, i.size, i.bytes)) = some (some (.slice none 0 0), 1, 24) := by kernel_rfl
theorem last_cell {w0 w : World} {Z : Thing} {e : TypeId} {a : Option Addr} {n c : Nat} {cs : List Value} {u : Value} (hn : cs.length = n) (h : Lab w0 w ((ownT e (.slice a (n + 1) c) (cs ++ [u])).star Z)) : ∃ g, a = some ⟨g, 0, none⟩ ∧ w.cell? ⟨g, n, none⟩ = some u ∧ w.frozen? ⟨g, n, none⟩ = false := by
  have hO := ownT.own h.left
  rcases hO.forms with ⟨h1, -⟩ | ⟨g, cap, cur, h1, -⟩
  · cases h1
  · simp only [Value.slice.injEq] at h1
    obtain ⟨rfl, -, -⟩ := h1
    obtain ⟨-, -, -, -, -, h6, h7⟩ := hO.parts
    exact ⟨g, rfl, h6 n u (by rw [List.getElem?_append_right (by omega)]; simp [hn]), h7 n⟩
/-- What stands behind i deeds. -/
def LsI (w wr : World) (s i : Nat) (d : DS) (ns : List Path) (dv : List Value) (a : Option Addr) (c : Nat) (a2 : Option Addr) (c2 : Nat) : Prop :=
  Lab w wr ((fuseT none none).star ((simT s none d).star ((ownT 9 (.slice a ns.length c) (pvs ns)).star ((ownT 30 (.slice a2 ns.length c2) dv).star emp)))) ∧ Named w d ns dv ∧ DS.calm d 1000000 ∧ Few d i
theorem lists_any (w : World) (v : Value) (l : List Deed) (hV : Deeds w v l) (hl : l.length ≤ maxLen) (pre : ByteArray) (hpre : pre.size ≤ maxLen) :
    Calls Try.prog 6 #[v, .string pre] w fun e w' => e = .returned (.bool true) ∧ Ext w w' := by
  obtain ⟨p0, rfl⟩ : ∃ p0 : Path, pre = bstr p0 := ⟨pre.data.toList, by cases pre; simp [bstr]⟩
  rw [bstr_size] at hpre
  obtain ⟨a, c, rfl⟩ := hV.form
  have HV := Lib.hid hV
  have HL := Lib.hid hl
  have HPRE := Lib.hid hpre
  clear hV hl hpre
  go_enter Try.func6, Try.ntmps6
  go_wp2_with fail
  refine (dawake_any _).mono ?_; rintro e w1 ⟨rfl, x1⟩
  have HV1 := Lib.hid (HV.out.ext x1)
  have X1 := Lib.hid x1
  clear x1
  go_wp2_with fail
  by_cases hR : l.length ≤ 40 ∧ ∀ x ∈ l, x.small
  case neg =>
    have HR := Lib.hid hR
    clear hR
    refine (room_any _ l 40 false (by omega) ⟨(fun h => Bool.noConfusion h), fun h => absurd h HR.out⟩ HL.out _ HV1.out).mono ?_; rintro e w' ⟨rfl, rfl⟩
    go_wp2_with fail
    go_ret
    exact ⟨rfl, X1.out⟩
  have HR := Lib.hid hR
  have hl40 : l.length ≤ 40 := hR.1
  clear hR
  refine (room_any _ l 40 true (by omega) ⟨fun _ => HR.out, fun _ => rfl⟩ HL.out _ HV1.out).mono ?_; rintro e w' ⟨rfl, rfl⟩
  by_cases hp5 : 500 < p0.length
  · have hp5' : (500 : Int) < (p0.length : Int) := by omega
    go_wp2_with fail
    go_ret
    exact ⟨rfl, X1.out⟩
  have hp5' : ¬ (500 : Int) < (p0.length : Int) := by omega
  go_wp2_with fail
  refine (Lab.newdisk 1000000 ((Lab.start w).ext X1.out).nofuse).mono ?_; rintro e w2 ⟨s, rfl, hL⟩
  have L2 := Lib.hid (show Lab w w2 ((fuseT none none).star ((simT s none ⟨1000000, false, 0, []⟩).star emp)) from hL)
  clear hL
  have L3 : Lab w w2 ((fuseT none none).star ((simT s none ⟨1000000, false, 0, []⟩).star ((ownT 9 (.slice none 0 0) (pvs [])).star ((ownT 30 (.slice none 0 0) []).star emp)))) :=
    ((ownT.nil 9 (ownT.nil 30 L2.out)).ent (.trans (.star (.refl _) .swap) (.trans (.star (.refl _) (.star (.refl _) .swap)) (.trans .swap (.star (.refl _) .swap)))))
  have LI := Lib.hid (show LsI w w2 s 0 ⟨1000000, false, 0, []⟩ [] [] none 0 none 0 from ⟨L3, Named.start w 1000000, ⟨rfl, rfl, rfl⟩, ⟨Up.nil, Nat.le_refl _, Nat.le_refl _⟩⟩)
  clear L3 L2
  go_wp2_with fail
  go_loopw [6, 7, 8] (fun v6 v7 v8 wr => ∃ (i : Nat) (d : DS) (ns : List Path) (dv : List Value) (na : Option Addr) (nc : Nat) (da : Option Addr) (dc : Nat), i ≤ l.length ∧ v8 = .int .i64 (i : Nat) ∧ v6 = .slice na ns.length nc ∧ v7 = .slice da ns.length dc ∧ Hid (LsI w wr s i d ns dv na nc da dc)) (fun _ _ v8 _ => (l.length - intOf v8).toNat)
  case atStart => exact ⟨0, _, [], [], _, _, _, _, by omega, rfl, rfl, rfl, LI⟩
  case round =>
    obtain ⟨i, d, ns, dv, na, nc, da, dc, hi, rfl, rfl, rfl, HI⟩ := hrel
    by_cases hlt : i < l.length
    · have hlt' : (i : Int) < (l.length : Int) := by omega
      have hx : l[i]? = some l[i] := List.getElem?_eq_getElem hlt
      have hsm := HR.out.2 _ (List.getElem_mem hlt)
      obtain ⟨x, hxx⟩ : ∃ x, l[i] = x := ⟨_, rfl⟩
      rw [hxx] at hx hsm
      have HX0 := Lib.hid hx
      obtain ⟨ok, b, o, rfl, xda, xdc, c0, c1, c2, c3, c4, c5⟩ := HV.out.at hx
      have HD := Lib.hid (And.intro ok (And.intro c5 (And.intro hsm (And.intro c2 c4))))
      have HC := Lib.hid (And.intro (HI.out.1.toExt.cell c2) (HI.out.1.toExt.cell c4))
      obtain ⟨xd, xn, xa, xb, xt⟩ := x
      clear ok c0 c1 c2 c3 c4 c5 hsm hx hxx
      go_wp2_with fail
      by_cases h0 : xa = []
      · subst h0
        have c2 := HC.out.1
        go_quiet (fail)
        have HN := Lib.hid (show LsI w (wr.drewN nq) s (i + 1) d ns dv na nc da dc from ⟨HI.out.1.ext (Ext.of_drawn wr nq), HI.out.2.1, HI.out.2.2.1, HI.out.2.2.2.more⟩)
        clear c2
        go_wp2_with fail
        exact ⟨⟨i + 1, d, ns, dv, na, nc, da, dc, by omega, by go_num, rfl, rfl, HN⟩, by simp [intOf]; omega⟩
      by_cases h6 : 600 < xa.length
      · have c2 := HC.out.1
        have q0 : (xa == []) = false := by simpa using h0
        have q1 : (600 : Int) < (xa.length : Int) := by omega
        go_quiet (fail)
        have HN := Lib.hid (show LsI w (wr.drewN nq) s (i + 1) d ns dv na nc da dc from ⟨HI.out.1.ext (Ext.of_drawn wr nq), HI.out.2.1, HI.out.2.2.1, HI.out.2.2.2.more⟩)
        clear c2
        go_wp2_with fail
        exact ⟨⟨i + 1, d, ns, dv, na, nc, da, dc, by omega, by go_num, rfl, rfl, HN⟩, by simp [intOf]; omega⟩
      have hok : okP xa = true := by
        unfold okP
        have : 1 ≤ xa.length := by
          cases xa with
          | nil => exact absurd rfl h0
          | cons _ _ => simp
        simp; omega
      have q0 : (xa == []) = false := by simpa using h0
      have q1 : ¬ (600 : Int) < (xa.length : Int) := by omega
      have q2 : decide (600 < xa.length) = false := by simpa using h6
      have hcw := calm_writes HI.out.2.2.1 HI.out.2.2.2 xa hok xt HD.out.2.2.1.2.2 (by omega) (by omega)
      have WR : Hid (∀ W, Lab w W ((fuseT none none).star ((simT s none d).star ((ownT 9 (.slice na ns.length nc) (pvs ns)).star ((ownT 30 (.slice da ns.length dc) dv).star emp)))) →
          Calls Try.prog 17 #[.pointer (some ⟨s, 0, none⟩), .string (bstr xa), .slice xda xt.length xdc] W fun e w' => e = .returned (.int .i64 0) ∧
            (w'.cell? ⟨b, o + i * 5 + 2, none⟩ = some (.string (bstr xa)) ∧ w'.cell? ⟨b, o + i * 5 + 4, none⟩ = some (.slice xda xt.length xdc)) ∧
            Lab w w' ((fuseT none none).star ((simT s none { d with fs := put xa ⟨xt, false⟩ d.fs }).star ((ownT 9 (.slice na ns.length nc) (pvs ns)).star ((ownT 30 (.slice da ns.length dc) dv).star emp))))) := Lib.hid (fun W hL => by
        refine (hL.write xa _ xt (by decide) (Nat.le_trans (Nat.le_of_not_lt h6) (by decide)) (Cells.ext HD.out.2.1 hL.toExt) (Nat.le_trans HD.out.2.2.1.2.2 (by decide)) (by have := HI.out.2.2.2.tot; omega) (by have := HI.out.2.2.2.len; omega)).mono ?_
        rw [hcw.1]
        rintro e w' ⟨rfl, h⟩
        exact ⟨rfl, ⟨h.toExt.cell HD.out.2.2.2.1, h.toExt.cell HD.out.2.2.2.2⟩, h⟩)
      have x0 := HI.out.1.drew
      have S0 : (fun w' : World => w'.cell? ⟨b, o + i * 5 + 2, none⟩ = some (.string (bstr xa)) ∧ w'.cell? ⟨b, o + i * 5 + 4, none⟩ = some (.slice xda xt.length xdc)) wr.drew := ⟨x0.toExt.cell HD.out.2.2.2.1, x0.toExt.cell HD.out.2.2.2.2⟩
      go_region_held3 (fun w' : World => w'.cell? ⟨b, o + i * 5 + 2, none⟩ = some (.string (bstr xa)) ∧ w'.cell? ⟨b, o + i * 5 + 4, none⟩ = some (.slice xda xt.length xdc)) (assumption) (first | (go_at_call 17; refine (WR.out _ x0).mono ?_; rintro e w4 ⟨rfl, hS4, hL4⟩))
      have L4 := Lib.hid hL4
      have HF4 := Lib.hid (And.intro hcw.2 (And.intro (show DS.calm { d with fs := put xa ⟨xt, false⟩ d.fs } 1000000 from HI.out.2.2.1) HI.out.2.1))
      obtain ⟨d4, hd4⟩ : ∃ d4 : DS, { d with fs := put xa ⟨xt, false⟩ d.fs } = d4 := ⟨_, rfl⟩
      rw [hd4] at L4 HF4
      have HD4 := Lib.hid hd4
      have HF4K := Lib.hid hok
      have hns : ns.length ≤ 40 := by have := HI.out.2.2.2.len; have := HI.out.2.1.len; omega
      clear hS4 hL4 S0 x0 WR hcw q0 q1 q2 hd4
      go_wp2_with fail
      go_loopw [9, 10] (fun v9 v10 wk => ∃ (k : Nat) (x : Int), k ≤ ns.length ∧ v10 = .int .i64 (k : Nat) ∧ v9 = .int .i64 x ∧ Hid (Where ns xa k x) ∧ Hid (Lab w wk ((fuseT none none).star ((simT s none d4).star ((ownT 9 (.slice na ns.length nc) (pvs ns)).star ((ownT 30 (.slice da ns.length dc) dv).star emp)))))) (fun _ v10 _ => (ns.length - intOf v10).toNat)
      case atStart => exact ⟨0, _, by omega, rfl, rfl, Lib.hid (Where.start ns xa), L4⟩
      case round =>
        obtain ⟨k, x, hk, rfl, rfl, HW, HK⟩ := hrel
        by_cases hkl : k < ns.length
        · have hkl' : (k : Int) < (ns.length : Int) := by omega
          have x0 := HK.out.drew
          obtain ⟨b1, o1, rfl, d1⟩ := Strs.at (ownT.own (x0.right.right.left)) hkl
          have hnk : ns[k]? = some ns[k] := List.getElem?_eq_getElem hkl
          obtain ⟨q, hq⟩ : ∃ q, ns[k] = q := ⟨_, rfl⟩
          rw [hq] at d1 hnk
          have HNK := Lib.hid hnk
          have S0 : (fun w' : World => w'.cell? ⟨b1, o1 + k, none⟩ = some (.string (bstr q)) ∧ w'.cell? ⟨b, o + i * 5 + 2, none⟩ = some (.string (bstr xa))) wr.drew := ⟨d1, x0.toExt.cell HD.out.2.2.2.1⟩
          have HKN := Lib.hid x0
          clear d1 hnk hq x0
          by_cases hqa : q = xa
          · have q0 : (q == xa) = true := by simpa using hqa
            have HWN := Lib.hid (Where.hit (ns := ns) (p := xa) (k := k) (by rw [HNK.out, hqa]))
            clear hqa
            go_wp2_with fail
            go_region_held3 (fun w' : World => w'.cell? ⟨b1, o1 + k, none⟩ = some (.string (bstr q)) ∧ w'.cell? ⟨b, o + i * 5 + 2, none⟩ = some (.string (bstr xa))) (assumption) (fail)
            go_wp2_with fail
            exact ⟨⟨k + 1, _, by omega, by go_num, rfl, HWN, HKN⟩, by simp [intOf]; omega⟩
          · have q0 : (q == xa) = false := by simpa using hqa
            have HWN := Lib.hid (Where.miss HW.out HNK.out hqa)
            clear hqa
            go_wp2_with fail
            go_region_held3 (fun w' : World => w'.cell? ⟨b1, o1 + k, none⟩ = some (.string (bstr q)) ∧ w'.cell? ⟨b, o + i * 5 + 2, none⟩ = some (.string (bstr xa))) (assumption) (fail)
            go_wp2_with fail
            exact ⟨⟨k + 1, _, by omega, by go_num, rfl, HWN, HKN⟩, by simp [intOf]; omega⟩
        · obtain rfl : k = ns.length := by omega
          clear hkl
          have C4 := HK.out.toExt.cell HD.out.2.2.2.1
          have C5 := HK.out.toExt.cell HD.out.2.2.2.2
          rcases HW.out with ⟨rfl, -⟩ | ⟨j, hj, rfl, hjx⟩
          · have hnot := HW.out.none
            have HNA := Lib.hid (And.intro hnot (HF4.out.2.2.more HI.out.2.2.2.up hnot HF4K.out HD.out.2.1))
            have hlen := HI.out.2.2.2.len
            have hle := HI.out.2.1.len
            have HLN := Lib.hid (And.intro (show ns.length ≤ 40 by omega) HI.out.2.1.lv)
            have HS1 := Lib.hid HK.out.third
            clear hnot hlen hle
            have wl : Go.RowKit.wrap64 ((ns.length : Nat) : Int) = ((ns.length : Nat) : Int) := by have := HLN.out.1; unfold Go.RowKit.wrap64; omega
            go_wp2_with (first | (at_builtin; refine list_of_wp rfl fun K hK => wp_lapp1 _ _ 39 9 (.string ByteArray.empty) 16 rfl Try.underlying39 info_str rfl (by decide) rfl rfl rfl (by simp [pvs]) HS1.out rfl (by have := HLN.out.1; simp [pvs]; omega) fun ad c2 w5 hL => hK _ _ ?_; clear hK) | (at_builtin; refine list_of_wp rfl fun K hK => wp_lapp1 _ _ 47 30 (.slice none 0 0) 24 rfl Try.underlying47 info_u8s rfl (by decide) rfl rfl rfl (by rw [HLN.out.2]) hL.fourth rfl (by have := HLN.out; omega) fun ad2 c3 w6 hL6 => hK _ _ ?_; clear hK; obtain ⟨g, rfl, sc, sf⟩ := last_cell HLN.out.2 hL6; have cc := hL6.toExt.cell HD.out.2.2.2.2; have L6 := Lib.hid hL6; clear hL hL6))
            have e1 : ns.length + 1 = (ns ++ [xa]).length := by simp
            have e2 : pvs ns ++ [Value.string (bstr xa)] = pvs (ns ++ [xa]) := by simp [pvs]
            have e3 : (dv ++ [Value.slice none 0 0]).set ns.length (.slice xda xt.length xdc) = dv ++ [Value.slice xda xt.length xdc] := by
              rw [List.set_append_right _ _ (Nat.le_of_eq HLN.out.2)]; simp [HLN.out.2]
            have hL7 := L6.out.set ns.length (.slice xda xt.length xdc)
            rw [e3, e2] at hL7
            have HN := Lib.hid (show LsI w _ s (i + 1) d4 (ns ++ [xa]) (dv ++ [.slice xda xt.length xdc]) ad c2 (some ⟨g, 0, none⟩) c3 from ⟨by rw [← e1]; exact (hL7.third.fourth.swap).ent (.star (.refl _) (.star (.refl _) .swap)), by rw [← HD4.out]; exact HNA.out.2, HF4.out.2.1, HF4.out.1⟩)
            have HE1 := Lib.hid e1
            clear hL7 e1 e2 e3
            exact ⟨⟨i + 1, d4, ns ++ [xa], _, ad, c2, some ⟨g, 0, none⟩, c3, by omega, by go_num, by rw [HE1.out], by rw [HE1.out], HN⟩, by simp [intOf]; omega⟩
          · obtain ⟨u0, hu0⟩ : ∃ u0, dv[j]? = some u0 := by rw [List.getElem?_eq_getElem (by rw [HI.out.2.1.lv]; exact hj)]; exact ⟨_, rfl⟩
            have hO := ownT.own HK.out.fourth.left
            obtain ⟨g, rfl⟩ : ∃ g, da = some ⟨g, 0, none⟩ := by
              rcases hO.forms with ⟨-, h2⟩ | ⟨g, cap, cur, h1, -⟩
              · rw [h2] at hu0; simp at hu0
              · simp only [Value.slice.injEq] at h1; exact ⟨g, h1.1⟩
            obtain ⟨-, -, -, -, -, h6, h7⟩ := hO.parts
            have sc := h6 j u0 hu0
            have sf := h7 j
            have HNA := Lib.hid (HF4.out.2.2.again HI.out.2.2.2.up hjx HD.out.2.1)
            have HS1 := Lib.hid (HK.out.fourth.set j (.slice xda xt.length xdc)).fourth'
            clear hu0 hO h6 h7 hjx
            go_wp2_with fail
            have HN := Lib.hid (show LsI w _ s (i + 1) d4 ns (dv.set j (.slice xda xt.length xdc)) na nc (some ⟨g, 0, none⟩) dc from ⟨HS1.out, by rw [← HD4.out]; exact HNA.out, HF4.out.2.1, HF4.out.1⟩)
            exact ⟨⟨i + 1, d4, ns, _, na, nc, some ⟨g, 0, none⟩, dc, by omega, by go_num, rfl, rfl, HN⟩, by simp [intOf]; omega⟩
    · obtain rfl : i = l.length := by omega
      clear hlt
      have hns : ns.length ≤ 40 := by have := HI.out.2.2.2.len; have := HI.out.2.1.len; omega
      have hfl : d.fs.length ≤ 4096 := by have := HI.out.2.1.len; omega
      have hft : tot d.fs ≤ 1099511627776 := by have := HI.out.2.2.2.tot; omega
      have HFL := Lib.hid (And.intro hfl hft)
      clear hfl hft
      go_wp2_with fail
      refine (HI.out.1.list [] (by decide) HFL.out.1).mono ?_
      rw [(calm_lists HI.out.2.2.1 []).1, having_nil, (calm_lists HI.out.2.2.1 []).2]; rintro e w5 ⟨u1, rfl, hL⟩
      obtain ⟨ps, hps⟩ : ∃ ps, paths d.fs = ps := ⟨_, rfl⟩
      have hpl : ps.length = ns.length := by rw [← hps, ← HI.out.2.1.len]; simp [paths]
      rw [hps] at hL
      obtain ⟨ua, uc, hu⟩ := Own.slice' (ownT.own hL.left)
      rw [pvs_len, hpl] at hu
      subst hu
      have L5 := Lib.hid hL.third'
      have HPS := Lib.hid (And.intro hps hpl)
      clear hL hps hpl
      go_wp2_with fail
      refine (L5.out.list p0 (by decide) HFL.out.1).mono ?_
      rw [(calm_lists HI.out.2.2.1 p0).1, (calm_lists HI.out.2.2.1 p0).2, HPS.out.1]; rintro e w6 ⟨u2, rfl, hL⟩
      obtain ⟨ta, tc, hu⟩ := Own.slice' (ownT.own hL.left)
      rw [pvs_len] at hu
      subst hu
      have L6 := Lib.hid hL.third'
      clear hL L5
      obtain ⟨rs, hrs⟩ : ∃ rs, having p0 ps = rs := ⟨_, rfl⟩
      rw [hrs] at L6 ⊢
      have HRS := Lib.hid hrs
      clear hrs
      go_wp2_with fail
      go_loopw [15] (fun v15 w7 => ∃ i : Nat, i ≤ ns.length ∧ v15 = .int .i64 (i : Nat) ∧ Hid (Lab w w7 ((fuseT none none).star ((simT s none d).star ((ownT 9 (.slice ta rs.length tc) (pvs rs)).star ((ownT 9 (.slice ua ns.length uc) (pvs ps)).star ((ownT 9 (.slice na ns.length nc) (pvs ns)).star ((ownT 30 (.slice da ns.length dc) dv).star emp)))))))) (fun v15 _ => (ns.length - intOf v15).toNat)
      case atStart => exact ⟨0, by omega, rfl, L6⟩
      case round =>
        obtain ⟨i, hi2, rfl, HK⟩ := hrel
        by_cases hil : i < ns.length
        · have hil' : (i : Int) < (ns.length : Int) := by omega
          have hni : ns[i]? = some ns[i] := List.getElem?_eq_getElem hil
          obtain ⟨b1, o1, rfl, d1⟩ := Strs.at (ownT.own (HK.out.right.right.right.right.left)) hil
          obtain ⟨q, hq⟩ : ∃ q, ns[i] = q := ⟨_, rfl⟩
          rw [hq] at d1 hni
          have hok := HI.out.2.1.ok q (List.mem_of_getElem? hni)
          obtain ⟨u0, hu0⟩ : ∃ u0, dv[i]? = some u0 := by rw [List.getElem?_eq_getElem (by rw [HI.out.2.1.lv]; exact hil)]; exact ⟨_, rfl⟩
          obtain ⟨f, xa, xc, hg, rfl, hb⟩ := HI.out.2.1.dat i u0 q hu0 hni
          have hcr := calm_read HI.out.2.2.1 hok hg
          have hql : q.length ≤ maxLen := by unfold okP at hok; simp only [decide_eq_true_eq] at hok; unfold maxLen; omega
          have HQ := Lib.hid (And.intro hcr (And.intro hb (And.intro hu0 hql)))
          clear hni hq hok hu0 hg hb hcr hql
          go_wp2_with fail
          refine (HK.out.read q (by decide) HQ.out.2.2.2 HFL.out.2).mono ?_
          rw [HQ.out.1.1, HQ.out.1.2.1, HQ.out.1.2.2]; rintro e w8 ⟨u, rfl, hL⟩
          obtain ⟨xa2, xc2, hu⟩ := Own.slice' (ownT.own hL.left)
          rw [bvs_len] at hu
          subst hu
          have y1 := str_conv (ownT.own hL.left).cells
          have x0 := hL.right.drew
          have y2 := str_conv (Cells.ext HQ.out.2.1 x0.toExt)
          obtain ⟨b2, o2, rfl, d2⟩ := Cells.at (ownT.own (x0.right.right.right.right.right.left)).cells HQ.out.2.2.1
          have S0 : (fun w' : World => w'.cell? ⟨b2, o2 + i, none⟩ = some (.slice xa f.b.length xc) ∧ (convert 30 9 (.slice xa2 f.b.length xc2)).run Try.prog w' = .ok (.string (bstr f.b)) w' ∧ (convert 30 9 (.slice xa f.b.length xc)).run Try.prog w' = .ok (.string (bstr f.b)) w') w8.drew := ⟨d2, y1 _ (Ext.of_drawn _ 1), y2 _ (Ext.refl _)⟩
          have HKN := Lib.hid x0
          clear y1 y2 d2 d1 hL x0
          go_wp2_with fail
          go_region_held3 (fun w' : World => w'.cell? ⟨b2, o2 + i, none⟩ = some (.slice xa f.b.length xc) ∧ (convert 30 9 (.slice xa2 f.b.length xc2)).run Try.prog w' = .ok (.string (bstr f.b)) w' ∧ (convert 30 9 (.slice xa f.b.length xc)).run Try.prog w' = .ok (.string (bstr f.b)) w') (assumption) (fail)
          go_wp2_with fail
          exact ⟨⟨i + 1, by omega, by go_num, HKN⟩, by simp [intOf]; omega⟩
        · obtain rfl : i = ns.length := by omega
          clear hil
          have L9 := HK
          have hpl := HPS.out.2
          go_wp2_with fail
          go_loopw [18, 19] (fun v18 v19 w7 => ∃ i : Nat, i ≤ ns.length ∧ v19 = .int .i64 (i : Nat) ∧ v18 = .int .i64 ((having p0 (ps.take i)).length : Nat) ∧ Hid (Lab w w7 ((fuseT none none).star ((simT s none d).star ((ownT 9 (.slice ta rs.length tc) (pvs rs)).star ((ownT 9 (.slice ua ns.length uc) (pvs ps)).star ((ownT 9 (.slice na ns.length nc) (pvs ns)).star ((ownT 30 (.slice da ns.length dc) dv).star emp)))))))) (fun _ v19 _ => (ns.length - intOf v19).toNat)
          case atStart => exact ⟨0, by omega, rfl, rfl, L9⟩
          case round =>
            obtain ⟨i, hi3, rfl, rfl, HM⟩ := hrel
            by_cases hil : i < ns.length
            · have hil' : (i : Int) < (ns.length : Int) := by omega
              have hip : i < ps.length := by omega
              obtain ⟨K, hK⟩ : ∃ K, (having p0 (ps.take i)).length = K := ⟨_, rfl⟩
              rw [hK]
              have hKl : K ≤ ns.length := by
                rw [← hK, ← hpl]
                exact Nat.le_trans (List.length_filter_le _ _) (List.length_take_le' _ _)
              have hpi : ps[i]? = some ps[i] := List.getElem?_eq_getElem hip
              have hnx := having_take (p := p0) hip
              have hgt := fun h => having_get (p := p0) (ps := ps) hip h
              have hup := fun (j : Nat) (hj : j + 1 < ps.length) => (by
                have h1 := paths_up HI.out.2.2.2.up (i := j) (by rw [HPS.out.1]; exact hj)
                simp only [HPS.out.1] at h1
                rw [less_before]
                exact h1 : Op.bytesLess ps[j] ps[j + 1] = true)
              have HUP := Lib.hid hup
              have x0 := HM.out.drew
              obtain ⟨b1, o1, rfl, d1⟩ := Strs.at (ownT.own (x0.right.right.right.left)) (j := i) (by rw [hpl] at *; exact hip)
              obtain ⟨q, hq⟩ : ∃ q, ps[i] = q := ⟨_, rfl⟩
              rw [hq] at d1 hpi hnx hgt
              have HNX := Lib.hid (And.intro hnx (And.intro hgt hK))
              have HMN := Lib.hid x0
              have HPI := Lib.hid hpi
              have HD1 := Lib.hid d1
              have HQ := Lib.hid hq
              clear hnx hgt hK hpi d1 hq hup x0
              have CONT : Hid (∀ w8, Lab w w8 ((fuseT none none).star ((simT s none d).star ((ownT 9 (.slice ta rs.length tc) (pvs rs)).star ((ownT 9 (.slice (some ⟨b1, o1, none⟩) ns.length uc) (pvs ps)).star ((ownT 9 (.slice na ns.length nc) (pvs ns)).star ((ownT 30 (.slice da ns.length dc) dv).star emp)))))) → w8.cell? ⟨b1, o1 + i, none⟩ = some (.string (bstr q))) := Lib.hid (fun w8 h => by
                obtain ⟨b2, o2, e, d2⟩ := Strs.at (ownT.own (h.right.right.right.left)) (j := i) (by rw [hpl] at *; exact hip)
                cases e
                rw [HQ.out] at d2
                exact d2)
              go_wp2_with fail
              refine wp_cutw [167, 168, 169, 170, 171, 172, 173, 174, 175, 176, 177, 178, 179] 180 (.bool false) (fun w8 => Lab w w8 ((fuseT none none).star ((simT s none d).star ((ownT 9 (.slice ta rs.length tc) (pvs rs)).star ((ownT 9 (.slice (some ⟨b1, o1, none⟩) ns.length uc) (pvs ps)).star ((ownT 9 (.slice na ns.length nc) (pvs ns)).star ((ownT 30 (.slice da ns.length dc) dv).star emp))))))) ?_ ?_
              · by_cases hi0 : i = 0
                · subst hi0
                  have c1 := CONT.out _ HM.out
                  go_quiet (fail)
                  exact cut_end (HM.out.ext (Ext.of_drawn wr nq)) (by kernel_rfl)
                · obtain ⟨j, rfl⟩ : ∃ j, i = j + 1 := ⟨i - 1, by omega⟩
                  have q1 := HUP.out j hip
                  rw [HQ.out] at q1
                  obtain ⟨b3, o3, e3, d3⟩ := Strs.at (ownT.own (HM.out.right.right.right.left)) (j := j) (by rw [hpl] at *; omega)
                  cases e3
                  obtain ⟨q3, hq3⟩ : ∃ q3, ps[j] = q3 := ⟨_, rfl⟩
                  rw [hq3] at d3 q1
                  have d1 := CONT.out _ HM.out
                  have z1 : (0 : Int) < ((j + 1 : Nat) : Int) := by omega
                  have z3 : (((j : Nat) : Int) + 1 - 1) = (j : Int) := by omega
                  have z4 : (0 : Int) < ((j : Nat) : Int) + 1 := by omega
                  have z5 : (j : Int) < (ns.length : Int) := by omega
                  have z6 : j < ns.length := by omega
                  clear hq3
                  go_quiet (fail)
                  exact cut_end (HM.out.ext (Ext.of_drawn wr nq)) (by kernel_rfl)
              · intro us w8 h8
                have H8 := Lib.hid h8
                have c8 := CONT.out _ h8
                clear h8
                simp only [setAll, List.foldl_cons, List.foldl_nil, List.set_cons_zero, List.set_cons_succ]
                rcases prefix_cases q p0 with ⟨p1, p2, p3⟩ | ⟨p1, p2 | ⟨p2, p3⟩⟩
                · have P1 := Lib.hid p1
                  clear p1
                  have p4 : (p0.length : Int) ≤ (q.length : Int) := by omega
                  have hK1 := HNX.out.2.1 P1.out
                  rw [HRS.out, HNX.out.2.2] at hK1
                  have hKr : K < rs.length := (List.getElem?_eq_some_iff.1 hK1).1
                  obtain ⟨b4, o4, rfl, d4⟩ := Cells.at (ownT.own (H8.out.right.right.left)).cells (j := K) (u := .string (bstr q)) (by simp [pvs, hK1])
                  have hKr2 : ¬ (rs.length : Int) ≤ (K : Int) := by omega
                  have hKr3 : (K : Int) < (rs.length : Int) := by omega
                  have HK1 : Hid ((having p0 (ps.take (i + 1))).length = K + 1) := Lib.hid (by rw [HNX.out.1, if_pos P1.out, List.length_append, HNX.out.2.2]; rfl)
                  clear hK1
                  go_wp2_with fail
                  go_quiet (fail)
                  have HN := Lib.hid (H8.out.ext (Ext.of_drawn w8 nq))
                  clear d4 c8
                  go_wp2_with fail
                  exact ⟨⟨i + 1, by omega, by go_num, by rw [HK1.out]; go_num, HN⟩, by simp [intOf]; omega⟩
                · have P1 := Lib.hid p1
                  clear p1
                  have p4 : ¬ (p0.length : Int) ≤ (q.length : Int) := by omega
                  have HK1 : Hid ((having p0 (ps.take (i + 1))).length = K) := Lib.hid (by rw [HNX.out.1, if_neg (by rw [P1.out]; simp), List.length_append, HNX.out.2.2]; rfl)
                  go_wp2_with fail
                  exact ⟨⟨i + 1, by omega, by go_num, by rw [HK1.out], H8⟩, by simp [intOf]; omega⟩
                · have P1 := Lib.hid p1
                  clear p1
                  have p4 : (p0.length : Int) ≤ (q.length : Int) := by omega
                  have HK1 : Hid ((having p0 (ps.take (i + 1))).length = K) := Lib.hid (by rw [HNX.out.1, if_neg (by rw [P1.out]; simp), List.length_append, HNX.out.2.2]; rfl)
                  go_wp2_with fail
                  exact ⟨⟨i + 1, by omega, by go_num, by rw [HK1.out], H8⟩, by simp [intOf]; omega⟩
            · obtain rfl : i = ns.length := by omega
              clear hil
              have he : (having p0 (ps.take ns.length)).length = rs.length := by rw [← hpl, List.take_length, HRS.out]
              rw [he]
              clear he
              go_wp2_with fail
              go_ret
              exact ⟨rfl, HM.out.toExt⟩
end Go.Proofs.Ytnphkddhckcpmaa
