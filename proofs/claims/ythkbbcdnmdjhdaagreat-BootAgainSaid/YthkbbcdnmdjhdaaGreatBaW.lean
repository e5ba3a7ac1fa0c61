/-
  BootAgain: the walk.
-/
import Derived.Test.YthkbbcdnmdjhdaaGreatBaP
import Derived.Test.YthkbbcdnmdjhdaaGreatBtB
import Derived.Test.YthkbbcdnmdjhdaaGreatHtB
import Derived.Test.YthkbbcdnmdjhdaaGreatArK
/-! XBaW: BootAgain: the walk. -/
namespace Go.Proofs.YthkbbcdnmdjhdaaGreat
open Go.RowKit Dk
set_option maxRecDepth 100000
set_option maxHeartbeats 40000000
attribute [local go_sem] min_int2 max_int2 bstr_toList

abbrev zdeedB : Value := .agg #[.int .i64 0, .int .i64 0, .string ByteArray.empty, .string ByteArray.empty, .slice none 0 0]
theorem info_deedB : (Tryz.prog.info? 74).map (fun i => (i.zero, i.size, i.bytes)) = some (some zdeedB, 5, 72) := by kernel_rfl
theorem Lab.afiles {w0 w : World} {a : AA} {fp : Option Nat} {s : AS} {Y X : Thing} {i sa n : Nat} (hX : Lab w0 w X) (hL : Lab w0 w (memA a fp s Y)) (hk : a.Ok s) (hA : ASnd s n) (hs : a.ss[i]? = some sa) :
    Calls Tryz.prog 46 #[.pointer (some ⟨sa, 0, none⟩)] w fun e w' => ∃ v, e = .returned v ∧ Lab w0 w' ((ownT 9 v (pvs (paths (s.ds.getD i dz).fs))).star X) :=
  Lab.files hX (hL.asim hk hs) (hA.getD i).len
theorem Lab.alookX {w0 w : World} {a : AA} {fp : Option Nat} {s : AS} {Y X : Thing} {i sa n : Nat} (hX : Lab w0 w X) (hL : Lab w0 w (memA a fp s Y)) (hk : a.Ok s) (hA : ASnd s n) (hs : a.ss[i]? = some sa) (p : Path) (hp : p.length ≤ maxLen) :
    Calls Tryz.prog 47 #[.pointer (some ⟨sa, 0, none⟩), .string (bstr p)] w fun e w' => ∃ u, e = .returned (.tuple #[u, .bool (match Dk.get p (s.ds.getD i dz).fs with | some f => f.sure | none => false), .bool (Dk.get p (s.ds.getD i dz).fs).isSome]) ∧ Lab w0 w' ((ownT 5 u (bvs (match Dk.get p (s.ds.getD i dz).fs with | some f => f.b | none => []))).star X) :=
  Lab.look hX (hL.asim hk hs) p hp (Nat.le_trans (hA.getD i).bytes (by decide))
theorem Ext.drew1 {w w' : World} (h : Ext w w') : Ext w w'.drew := Ext.trans h (Ext.of_drawn w' 1)
theorem bstr_cat (p q : Path) : bstr p ++ bstr q = bstr (p ++ q) := by
  apply ByteArray.ext
  rw [ByteArray.data_append]
  simp [bstr]
theorem stradd_eq {t : TypeId} {x y z : ByteArray} (h : x ++ y = z) (hs : x.size + y.size ≤ 9223372036854775807) : binOp .add t (.string x) (.string y) = pure (.string z) := by
  have hm : ¬ (((x.size + y.size : Nat) : Int) > IntKind.i64.max) := by
    have e : IntKind.i64.max = 9223372036854775807 := by decide
    rw [e]; omega
  unfold binOp Op.stringOp
  simp only [if_neg hm, h]
theorem run_stradd {P : Program} {t : TypeId} {x y z : ByteArray} (h : x ++ y = z) (hs : x.size + y.size ≤ 9223372036854775807) (W : World) : (binOp .add t (.string x) (.string y)).run P W = .ok (.string z) W := by
  rw [stradd_eq h hs]; rfl
theorem bagain_law (w : World) (sk : Int) (_bk : -9223372036854775808 ≤ sk ∧ sk ≤ 9223372036854775807) (sm : Int) (_bm : -9223372036854775808 ≤ sm ∧ sm ≤ 9223372036854775807) (sb : Int) (_bb : -9223372036854775808 ≤ sb ∧ sb ≤ 9223372036854775807) (v : Value) (l : List Hit) (hV : Hits w v l) (hl : l.length ≤ maxLen) (times : UInt8) :
    Calls Tryz.prog 8 #[.agg #[.int .i64 sk, .int .i64 sm, .int .i64 sb], v, bv times] w fun e w' => e = .returned (.bool true) ∧ Ext w w' := by
  obtain ⟨la, lc, rfl⟩ := hV.form
  obtain ⟨f, hf⟩ := hV.withF
  have HF := Lib.hid hf
  unfold maxLen at hl
  obtain ⟨tm, htm⟩ : ∃ tm, times.toNat = tm := ⟨_, rfl⟩
  have htm2 : tm < 256 := by rw [← htm]; exact UInt8.toNat_lt _
  rw [show bv times = .int .u8 (tm : Nat) from by subst htm; rfl]
  have hL1 := (Lab.start w).newrow 23 #[.int .i64 sk, .int .i64 sm, .int .i64 sb]
  obtain ⟨sbx, hsb⟩ : ∃ b, w.heap.size = b := ⟨_, rfl⟩
  rw [hsb] at hL1
  clear hV hf htm
  go_enter Tryz.func8, Tryz.ntmps8
  go_wp2_with fail
  refine (bawake_any _).mono ?_; rintro e w2 ⟨rfl, x2⟩
  have L2 := Lib.hid (hL1.ext x2)
  clear hL1 x2 hsb
  by_cases h30 : 30 < l.length
  · have h30' : (30 : Int) < (l.length : Int) := by omega
    have X2 := Lib.hid L2.out.toExt
    clear h30
    go_wp2_with fail
    go_ret
    exact ⟨rfl, X2.out⟩
  have h30' : (l.length : Int) ≤ 30 := by omega
  have c0 := (rowT.row L2.out.left).cell (i := 0) (v := .int .i64 sk) rfl
  have c1 := (rowT.row L2.out.left).cell (i := 1) (v := .int .i64 sm) rfl
  have c2 := (rowT.row L2.out.left).cell (i := 2) (v := .int .i64 sb) rfl
  go_wp2_with fail
  by_cases hr : 1 ≤ sk ∧ sk ≤ 12 ∧ 1 ≤ sm ∧ sm ≤ 12
  case neg =>
    have HR := Lib.hid hr
    clear hr
    refine (make_bad sk sm sb 100000 HR.out _).mono ?_; rintro e w3 ⟨rfl, x3⟩
    have X3 := Lib.hid (Ext.trans L2.out.toExt x3)
    clear x3
    go_wp2_with fail
    go_ret
    exact ⟨rfl, X3.out⟩
  refine (make_any sk sm sb 100000 hr w _ _ L2.out).mono ?_
  rintro e w3 (⟨-, rfl, x3⟩ | ⟨P, K, M, B, hm, rfl, hL⟩)
  · go_wp2_with fail
    go_ret
    exact ⟨rfl, x3⟩
  obtain ⟨n, hn⟩ : ∃ n, K + M = n := ⟨_, rfl⟩
  obtain ⟨YY, hYY⟩ : ∃ YY, (rowT sbx 23 #[.int .i64 sk, .int .i64 sm, .int .i64 sb]).star emp = YY := ⟨_, rfl⟩
  have hn24 : n ≤ 24 ∧ 2 ≤ n := by have := hm.k1; have := hm.k2; have := hm.m1; have := hm.m2; omega
  have HOK := Lib.hid (show ∀ s : AS, s.ds.length = n → P.A.Ok s from fun s h => hm.ok (by rw [h, hn]))
  have HN := Lib.hid (show P.A.ss.length = n from hm.an.trans hn)
  have HK := Lib.hid (And.intro hm.aK hm.aM)
  obtain ⟨t0, ht0⟩ : ∃ t0, blanks n 100000 = t0 := ⟨_, rfl⟩
  have hgd0 : Gd t0 0 := by rw [← ht0]; exact ⟨rfl, fun d hd => by rw [List.eq_of_mem_replicate hd]; exact ⟨rfl, rfl⟩⟩
  have hln0 : t0.ds.length = n := by rw [← ht0]; unfold blanks; simp
  have hsn0 : ASnd t0 0 := by rw [← ht0]; exact blanks_snd n 100000 (by omega)
  have hbl := inits_blank hgd0 (fun d hd => by rw [← ht0] at hd; rw [List.eq_of_mem_replicate hd]; exact ⟨rfl, by show 11 ≤ mostOf 100000; decide⟩) K M n (by rw [hln0]; exact Nat.le_refl _)
  have hps0 : Ps t0 := by rw [← ht0]; intro d hd; rw [List.eq_of_mem_replicate hd]; intro e he; cases he
  have HPS0 := Lib.hid (hps0.inits (fmtB K M) n)
  have HBL := Lib.hid (show (t0.inits (fmtB K M) n).1 = 0 ∧ Gd (t0.inits (fmtB K M) n).2 (3 * n) ∧ ASnd (t0.inits (fmtB K M) n).2 (3 * n) ∧ (t0.inits (fmtB K M) n).2.ds.length = n from ⟨hbl.1, hbl.2.1, by have := hsn0.inits (fmtB K M) n; rwa [Nat.zero_add] at this, (AS.inits_len ..).trans hln0⟩)
  have HT0 := Lib.hid (And.intro hln0 hsn0)
  have L3 := Lib.hid (show Lab w w3 (memP P t0 t0 YY) by rw [← ht0, ← hn, ← hYY]; exact hL)
  have p0 := (memP.cells L3.out).1
  clear hL hm hr c0 c1 c2 hYY ht0 hn hgd0 hln0 hsn0 hps0 hbl L2
  go_wp2_with fail
  refine (binit_any P.A (some P.f) t0 _ 0 w _ (L3.out.ent memP_in) (HOK.out _ HT0.out.1) HT0.out.2 (by decide)).mono ?_; rintro e w4 ⟨rfl, hL⟩
  rw [HK.out.1, HK.out.2, HN.out] at hL ⊢
  rw [HBL.out.1]
  obtain ⟨s0, hs0⟩ : ∃ s0, (t0.inits (fmtB K M) n).2 = s0 := ⟨_, rfl⟩
  rw [hs0] at hL HBL HPS0
  have L4 := Lib.hid (hL.ent memP_out)
  have LD := Lib.hid (ownKT.nil 74 5 L4.out)
  clear hL hs0 p0 L3
  go_wp2_with fail
  go_loopw [8, 9] (fun v7 v8 wr => ∃ (i : Nat) (xa : Option Addr) (xc : Nat), i ≤ l.length ∧ v8 = .int .i64 (i : Nat) ∧ v7 = .slice xa i xc ∧ Hid (Lab w wr ((ownKT 74 5 (.slice xa i xc) i ((List.range i).flatMap (drow l f))).star (memP P s0 t0 YY)))) (fun _ v8 _ => (l.length - intOf v8).toNat)
  case atStart => exact ⟨0, none, 0, by omega, rfl, rfl, LD⟩
  case round =>
    obtain ⟨i, xa, xc, hi, rfl, rfl, HI⟩ := hrel
    by_cases hlt : i < l.length
    · have hlt' : (i : Int) < (l.length : Int) := by omega
      obtain ⟨x, hx⟩ : ∃ x, l[i]? = some x := ⟨_, List.getElem?_eq_getElem hlt⟩
      obtain ⟨-, -, b, o, hla, -, d0, d1, d2, d3, d4⟩ := (HF.out.ext HI.out.toExt) i x hx
      have HR := Lib.hid (show (List.range (i + 1)).flatMap (drow l f) = (List.range i).flatMap (drow l f) ++ dcs x.d (f i) by rw [flat_succ, drow_get f hx])
      obtain ⟨xi, ⟨xact, xn, xp, xq, xt⟩⟩ := x
      obtain ⟨⟨da, dc⟩, hda⟩ : ∃ p, f i = p := ⟨_, rfl⟩
      rw [hda] at HR d4
      simp only at d0 d1 d2 d3 d4 HR
      subst hla
      clear hx hda
      go_wp2_with (at_builtin; refine list_of_wp rfl fun KK hKK => wp_lappK1 _ _ 72 74 zdeedB 5 72 rfl Tryz.underlying72 info_deedB rfl (by decide) rfl rfl rfl rfl rfl (dcs_one ⟨xact, xn, xp, xq, xt⟩ (da, dc)) HI.out (by omega) fun ad c w7 hL => hKK _ _ ?_)
      have HL7 := Lib.hid hL
      clear hL d0 d1 d2 d3 d4
      go_wp2_with fail
      exact ⟨⟨i + 1, ad, c, by omega, by go_num, rfl, Lib.hid (by rw [HR.out]; exact HL7.out)⟩, by simp [intOf]; omega⟩
    · obtain rfl : i = l.length := by omega
      clear hlt
      have HDD := Lib.hid (deeds_own HF.out HI.out.toExt rfl (ownKT.own HI.out.left))
      by_cases hR : (l.map Hit.d).length ≤ 30 ∧ ∀ x ∈ l.map Hit.d, x.small
      case neg =>
        have HR := Lib.hid hR
        clear hR
        go_wp2_with fail
        refine (room_any _ (l.map Hit.d) 30 false (by omega) ⟨(fun h => Bool.noConfusion h), fun h => absurd h HR.out⟩ (by rw [List.length_map]; unfold maxLen; omega) _ HDD.out).mono ?_; rintro e w' ⟨rfl, rfl⟩
        go_wp2_with fail
        go_ret
        exact ⟨rfl, HI.out.toExt⟩
      have HR := Lib.hid hR.2
      clear hR
      go_wp2_with fail
      refine (room_any _ (l.map Hit.d) 30 true (by omega) ⟨fun _ => ⟨by rw [List.length_map]; omega, HR.out⟩, fun _ => rfl⟩ (by rw [List.length_map]; unfold maxLen; omega) _ HDD.out).mono ?_; rintro e w' ⟨rfl, rfl⟩
      have L5 := Lib.hid (show (3 * n ≤ 3 * n + 0 ∧ Ps s0) ∧ Gd s0 (3 * n) ∧ ASnd s0 (3 * n) ∧ s0.ds.length = n ∧ Lab w wr (memP P s0 t0 YY) from ⟨⟨Nat.le_refl _, HPS0.out⟩, HBL.out.2.1, HBL.out.2.2.1, HBL.out.2.2.2, HI.out.right⟩)
      clear HDD HI LD L4
      go_wp2_with fail
      go_loopw [10] (fun v10 wr => ∃ (i m : Nat) (s : AS), i ≤ l.length ∧ v10 = .int .i64 (i : Nat) ∧ Hid ((m ≤ 3 * n + i ∧ Ps s) ∧ Gd s m ∧ ASnd s m ∧ s.ds.length = n ∧ Lab w wr (memP P s t0 YY))) (fun v10 _ => (l.length - intOf v10).toNat)
      case atStart => exact ⟨0, 3 * n, s0, by omega, rfl, L5⟩
      case round =>
        obtain ⟨i, m, s, hi, rfl, HI⟩ := hrel
        by_cases hlt : i < l.length
        · have hlt' : (i : Int) < (l.length : Int) := by omega
          obtain ⟨x, hx⟩ : ∃ x, l[i]? = some x := ⟨_, List.getElem?_eq_getElem hlt⟩
          obtain ⟨ok, c5, b, o, hla, c0, d0, d1, d2, d3, d4⟩ := HF.out i x hx
          have HX := Lib.hid (And.intro ok (And.intro c5 (HR.out x.d (List.mem_map.2 ⟨x, List.mem_of_getElem? hx, rfl⟩))))
          obtain ⟨xi, ⟨xact, xn, xp, xq, xt⟩⟩ := x
          obtain ⟨⟨da, dc⟩, hda⟩ : ∃ p, f i = p := ⟨_, rfl⟩
          rw [hda] at d4 HX
          simp only at c0 d0 d1 d2 d3 d4 HX
          subst hla
          have HC := Lib.hid (And.intro c0 (And.intro d2 d4))
          replace c0 := HI.out.2.2.2.2.toExt.cell c0
          replace d0 := HI.out.2.2.2.2.toExt.cell d0
          replace d2 := HI.out.2.2.2.2.toExt.cell d2
          replace d4 := HI.out.2.2.2.2.toExt.cell d4
          have p1 : wr.cell? ⟨P.pb, 1, none⟩ = some (.slice (some ⟨P.db, 0, none⟩) n P.dc) := HN.out ▸ (memP.cells HI.out.2.2.2.2).2.1
          clear hx hda ok c5
          by_cases h1 : 0 ≤ xi
          case neg =>
            have h1' : xi < 0 := by omega
            have g0 : decide (0 ≤ xi) = false := decide_eq_false h1
            go_wp2_with fail
            go_quiet (fail)
            have LQ := Lib.hid (HI.out.2.2.2.2.ext (Ext.of_drawn wr nq))
            generalize wr.drewN nq = wt at LQ ⊢
            clear p1 c0 d0 d1 d2 d3 d4
            go_wp2_with fail
            exact ⟨⟨i + 1, m, s, by omega, by go_num, Lib.hid ⟨⟨by have := HI.out.1.1; omega, HI.out.1.2⟩, HI.out.2.1, HI.out.2.2.1, HI.out.2.2.2.1, LQ.out⟩⟩, by simp [intOf]; omega⟩
          have g0 : decide (0 ≤ xi) = true := decide_eq_true h1
          by_cases h2 : xi < n
          case neg =>
            have g1 : decide (xi < (n : Int)) = false := decide_eq_false h2
            go_wp2_with fail
            go_quiet (fail)
            have LQ := Lib.hid (HI.out.2.2.2.2.ext (Ext.of_drawn wr nq))
            generalize wr.drewN nq = wt at LQ ⊢
            clear p1 c0 d0 d1 d2 d3 d4
            go_wp2_with fail
            exact ⟨⟨i + 1, m, s, by omega, by go_num, Lib.hid ⟨⟨by have := HI.out.1.1; omega, HI.out.1.2⟩, HI.out.2.1, HI.out.2.2.1, HI.out.2.2.2.1, LQ.out⟩⟩, by simp [intOf]; omega⟩
          obtain ⟨k, rfl⟩ := Int.eq_ofNat_of_zero_le h1
          have hkn : k < n := by omega
          have g1 : decide ((k : Int) < (n : Int)) = true := decide_eq_true h2
          by_cases h3 : xact = 1 ∨ xact = 2
          case neg =>
            have g2 : (xact == 1) = false := by simp; omega
            have g3 : (xact == 2) = false := by simp; omega
            clear h3
            go_wp2_with fail
            go_quiet (fail)
            have LQ := Lib.hid (HI.out.2.2.2.2.ext (Ext.of_drawn wr nq))
            generalize wr.drewN nq = wt at LQ ⊢
            clear p1 c0 d0 d1 d2 d3 d4
            go_wp2_with fail
            exact ⟨⟨i + 1, m, s, by omega, by go_num, Lib.hid ⟨⟨by have := HI.out.1.1; omega, HI.out.1.2⟩, HI.out.2.1, HI.out.2.2.1, HI.out.2.2.2.1, LQ.out⟩⟩, by simp [intOf]; omega⟩
          obtain ⟨sa, hsa⟩ : ∃ sa, P.A.ss[k]? = some sa := ⟨_, List.getElem?_eq_getElem (by rw [HN.out]; exact hkn)⟩
          have p2 := memP.sim HI.out.2.2.2.2 hsa
          obtain ⟨s1, hs1⟩ : ∃ s1, (s.op k fun z d => writes z d xp xt).2 = s1 := ⟨_, rfl⟩
          have HNX := Lib.hid (show Gd s1 (m + 1) ∧ ASnd s1 (m + 1) ∧ s1.ds.length = n from by
            rw [← hs1]
            exact ⟨HI.out.2.1.write k xp xt, HI.out.2.2.1.write k xp xt, (AS.op_len ..).trans HI.out.2.2.2.1⟩)
          have HSA := Lib.hid (And.intro hsa hs1)
          have FW : Hid (∀ W, Lab w W (memP P s t0 YY) → Calls Tryz.prog 45 #[.pointer (some ⟨sa, 0, none⟩), .string (bstr xp), .slice da xt.length dc] W fun e w' => (∃ r : Nat, e = .returned (.int .i64 r)) ∧ (fun w' : World => w'.cell? ⟨P.pb, 1, none⟩ = some (.slice (some ⟨P.db, 0, none⟩) n P.dc) ∧ w'.cell? ⟨b, o + i * 6, none⟩ = some (.int .i64 (k : Nat)) ∧ w'.cell? ⟨b, o + i * 6 + 3, none⟩ = some (.string (bstr xp)) ∧ w'.cell? ⟨b, o + i * 6 + 5, none⟩ = some (.slice da xt.length dc) ∧ w'.cell? ⟨P.db, k, none⟩ = some (.pointer (some ⟨sa, 0, none⟩))) w' ∧ Lab w w' (memP P s1 t0 YY)) := Lib.hid fun W h => by
            refine (Lab.awrite (h.ent memP_in) (HOK.out _ HI.out.2.2.2.1) HI.out.2.2.1 (by have := HI.out.1.1; omega) HSA.out.1 xp _ xt (Nat.le_trans HX.out.2.2.1 (by decide)) (Cells.ext HX.out.2.1 h.toExt) (Nat.le_trans HX.out.2.2.2.2 (by decide))).mono ?_
            rintro e w' ⟨k1, k2⟩
            rw [HSA.out.2] at k2
            have k3 := k2.ent memP_out
            exact ⟨⟨_, k1⟩, ⟨HN.out ▸ (memP.cells k3).2.1, k3.toExt.cell HC.out.1, k3.toExt.cell HC.out.2.1, k3.toExt.cell HC.out.2.2, memP.sim k3 HSA.out.1⟩, k3⟩
          clear hsa hs1
          rcases h3 with rfl | rfl
          · go_wp2_with fail
            go_quiet (fail)
            have LQ := Lib.hid (HI.out.2.2.2.2.ext (Ext.of_drawn wr nq))
            have S1 : (fun w' : World => w'.cell? ⟨P.pb, 1, none⟩ = some (.slice (some ⟨P.db, 0, none⟩) n P.dc) ∧ w'.cell? ⟨b, o + i * 6, none⟩ = some (.int .i64 (k : Nat)) ∧ w'.cell? ⟨b, o + i * 6 + 3, none⟩ = some (.string (bstr xp)) ∧ w'.cell? ⟨b, o + i * 6 + 5, none⟩ = some (.slice da xt.length dc) ∧ w'.cell? ⟨P.db, k, none⟩ = some (.pointer (some ⟨sa, 0, none⟩))) (wr.drewN nq).drew := ⟨((Ext.of_drawn wr nq).drew1.cell p1), ((Ext.of_drawn wr nq).drew1.cell c0), ((Ext.of_drawn wr nq).drew1.cell d2), ((Ext.of_drawn wr nq).drew1.cell d4), ((Ext.of_drawn wr nq).drew1.cell p2)⟩
            generalize wr.drewN nq = wt at LQ S1 ⊢
            have x0 := LQ.out.drew
            clear p1 p2 c0 d0 d1 d2 d3 d4
            go_wp2_with fail
            go_region_held3 (fun w' : World => w'.cell? ⟨P.pb, 1, none⟩ = some (.slice (some ⟨P.db, 0, none⟩) n P.dc) ∧ w'.cell? ⟨b, o + i * 6, none⟩ = some (.int .i64 (k : Nat)) ∧ w'.cell? ⟨b, o + i * 6 + 3, none⟩ = some (.string (bstr xp)) ∧ w'.cell? ⟨b, o + i * 6 + 5, none⟩ = some (.slice da xt.length dc) ∧ w'.cell? ⟨P.db, k, none⟩ = some (.pointer (some ⟨sa, 0, none⟩))) (assumption) (first | (go_at_call 45; refine (FW.out _ x0).mono ?_; rintro e w6 ⟨⟨r, rfl⟩, hS6, hL6⟩))
            have L6 := Lib.hid hL6
            clear x0 S1 FW hS6 hL6
            go_wp2_with fail
            exact ⟨⟨i + 1, m + 1, s1, by omega, by go_num, Lib.hid ⟨⟨by have := HI.out.1.1; omega, HSA.out.2 ▸ HI.out.1.2.write k xp xt⟩, HNX.out.1, HNX.out.2.1, HNX.out.2.2, L6.out⟩⟩, by simp [intOf]; omega⟩
          · go_wp2_with fail
            go_quiet (fail)
            have LQ := Lib.hid (HI.out.2.2.2.2.ext (Ext.of_drawn wr nq))
            have S1 : (fun w' : World => w'.cell? ⟨P.pb, 1, none⟩ = some (.slice (some ⟨P.db, 0, none⟩) n P.dc) ∧ w'.cell? ⟨b, o + i * 6, none⟩ = some (.int .i64 (k : Nat)) ∧ w'.cell? ⟨b, o + i * 6 + 3, none⟩ = some (.string (bstr xp)) ∧ w'.cell? ⟨b, o + i * 6 + 5, none⟩ = some (.slice da xt.length dc) ∧ w'.cell? ⟨P.db, k, none⟩ = some (.pointer (some ⟨sa, 0, none⟩))) (wr.drewN nq).drew := ⟨((Ext.of_drawn wr nq).drew1.cell p1), ((Ext.of_drawn wr nq).drew1.cell c0), ((Ext.of_drawn wr nq).drew1.cell d2), ((Ext.of_drawn wr nq).drew1.cell d4), ((Ext.of_drawn wr nq).drew1.cell p2)⟩
            generalize wr.drewN nq = wt at LQ S1 ⊢
            have x0 := LQ.out.drew
            clear p1 p2 c0 d0 d1 d2 d3 d4
            go_wp2_with fail
            go_region_held3 (fun w' : World => w'.cell? ⟨P.pb, 1, none⟩ = some (.slice (some ⟨P.db, 0, none⟩) n P.dc) ∧ w'.cell? ⟨b, o + i * 6, none⟩ = some (.int .i64 (k : Nat)) ∧ w'.cell? ⟨b, o + i * 6 + 3, none⟩ = some (.string (bstr xp)) ∧ w'.cell? ⟨b, o + i * 6 + 5, none⟩ = some (.slice da xt.length dc) ∧ w'.cell? ⟨P.db, k, none⟩ = some (.pointer (some ⟨sa, 0, none⟩))) (assumption) (first | (go_at_call 45; refine (FW.out _ x0).mono ?_; rintro e w6 ⟨⟨r, rfl⟩, hS6, hL6⟩))
            have L6 := Lib.hid hL6
            clear x0 S1 FW hS6 hL6
            go_wp2_with fail
            exact ⟨⟨i + 1, m + 1, s1, by omega, by go_num, Lib.hid ⟨⟨by have := HI.out.1.1; omega, HSA.out.2 ▸ HI.out.1.2.write k xp xt⟩, HNX.out.1, HNX.out.2.1, HNX.out.2.2, L6.out⟩⟩, by simp [intOf]; omega⟩
        · obtain rfl : i = l.length := by omega
          clear hlt
          have HGD := Lib.hid HI.out.2.1
          have HSN := Lib.hid HI.out.2.2.1
          have HLN := Lib.hid HI.out.2.2.2.1
          have LW := Lib.hid (show Lab w wr ((ownT 9 (.slice none 0 0) (pvs (WT s.ds 0))).star (memP P s t0 YY)) from ownT.nil 9 HI.out.2.2.2.2)
          have hm9 : m ≤ 3 * n + l.length := HI.out.1.1
          have HPS := Lib.hid HI.out.1.2
          clear HI
          go_wp2_with fail
          go_loopw [11, 12] (fun v11 v12 wr => ∃ (j : Nat) (wa : Option Addr) (wc : Nat), j ≤ n ∧ v12 = .int .i64 (j : Nat) ∧ v11 = .slice wa (WT s.ds j).length wc ∧ Hid (Lab w wr ((ownT 9 (.slice wa (WT s.ds j).length wc) (pvs (WT s.ds j))).star (memP P s t0 YY)))) (fun _ v12 _ => (n - intOf v12).toNat)
          case atStart => exact ⟨0, none, 0, by omega, rfl, rfl, LW⟩
          case round =>
            obtain ⟨j, wa, wc, hj, rfl, rfl, HI⟩ := hrel
            have p1 : wr.cell? ⟨P.pb, 1, none⟩ = some (.slice (some ⟨P.db, 0, none⟩) n P.dc) := HN.out ▸ (memP.cells HI.out.right).2.1
            by_cases hjn : j < n
            · have hjn' : (j : Int) < (n : Int) := by omega
              obtain ⟨sa, hsa⟩ : ∃ sa, P.A.ss[j]? = some sa := ⟨_, List.getElem?_eq_getElem (by rw [HN.out]; exact hjn)⟩
              have p2 := memP.sim HI.out.right hsa
              have HSA := Lib.hid hsa
              clear hsa
              go_wp2_with fail
              refine (Lab.afiles HI.out (HI.out.right.ent memP_in) (HOK.out _ HLN.out) HSN.out HSA.out).mono ?_; rintro e w7 ⟨fv, rfl, hL⟩
              obtain ⟨d, hd⟩ : ∃ d, (s.ds.getD j dz) = d := ⟨_, rfl⟩
              have hdl := (HSN.out.getD j).len
              rw [hd] at hL hdl
              obtain ⟨fa, fc, rfl⟩ := Own.slice' (ownT.own hL.left)
              obtain ⟨q, hq⟩ : ∃ q, d.fs.length = q := ⟨_, rfl⟩
              have hpl : (paths d.fs).length = q := by unfold paths; rw [List.length_map, hq]
              rw [pvs_len, hpl] at hL ⊢
              rw [hq] at hdl
              obtain ⟨W0, hW0⟩ : ∃ W0, WT s.ds j = W0 := ⟨_, rfl⟩
              rw [hW0] at hL
              have hwl : W0.length ≤ 4096 * 23 := by rw [← hW0]; exact Nat.le_trans (WT_len (fun j => (HSN.out.getD j).len) j) (by omega)
              have HD := Lib.hid (And.intro hd (And.intro hq (And.intro hpl hW0)))
              have L7 := Lib.hid hL
              clear hL hd hq hpl hW0 p1 p2
              go_wp2_with fail
              go_loopw [11, 14] (fun v11 v14 wr => ∃ (k N : Nat) (xa : Option Addr) (xc : Nat), k ≤ q ∧ v14 = .int .i64 (k : Nat) ∧ v11 = .slice xa N xc ∧ Hid (N = (W0 ++ wtk d k).length) ∧ Hid (Lab w wr ((ownT 9 (.slice fa q fc) (pvs (paths d.fs))).star ((ownT 9 (.slice xa N xc) (pvs (W0 ++ wtk d k))).star (memP P s t0 YY))))) (fun _ v14 _ => (q - intOf v14).toNat)
              case atStart => exact ⟨0, _, wa, wc, by omega, rfl, rfl, Lib.hid (by rw [HD.out.2.2.2, show wtk d 0 = [] from rfl, List.append_nil]), Lib.hid (by rw [show wtk d 0 = [] from rfl, List.append_nil, HD.out.2.2.2]; exact L7.out)⟩
              case round =>
                obtain ⟨k, N, xa, xc, hk, rfl, rfl, HNL, HJ⟩ := hrel
                by_cases hkq : k < q
                · have hkq' : (k : Int) < (q : Int) := by omega
                  obtain ⟨pth, hpth⟩ : ∃ pth, (paths d.fs)[k]? = some pth := ⟨_, List.getElem?_eq_getElem (by rw [HD.out.2.2.1]; exact hkq)⟩
                  obtain ⟨b1, o1, rfl, e1⟩ := Strs.at (ownT.own HJ.out.left) (List.getElem?_eq_some_iff.1 hpth).1
                  rw [(List.getElem?_eq_some_iff.1 hpth).2] at e1
                  have hwk := wtk_succ (show (d.fs.map (·.1))[k]? = some pth from hpth)
                  have hpm : pth.length ≤ 600 := (HD.out.1 ▸ (HPS.out.getD j) : Pd d).path (k := k) hpth
                  have hlk : (wtk d k).length ≤ q := HD.out.2.1 ▸ wtk_len d k
                  have HP := Lib.hid (And.intro hpth (And.intro hwk hpm))
                  clear hpth hwk hpm
                  by_cases htm : pth = tmpP
                  · have HWE := Lib.hid (show wtk d (k + 1) = wtk d k by rw [HP.out.2.1, if_pos htm])
                    subst htm
                    go_wp2_with fail
                    exact ⟨⟨k + 1, N, xa, xc, by omega, by go_num, rfl, Lib.hid (by rw [HWE.out]; exact HNL.out), Lib.hid (by rw [HWE.out]; exact HJ.out)⟩, by simp [intOf]; omega⟩
                  have HNE := Lib.hid htm
                  have g5 : (pth == [116, 109, 112]) = false := beq_eq_false_iff_ne.2 htm
                  have g6 : ¬ pth = [116, 109, 112] := htm
                  have g7 : (bstr pth).data.toList = pth := by simp [bstr]
                  clear htm
                  have p1 : wr.cell? ⟨P.pb, 1, none⟩ = some (.slice (some ⟨P.db, 0, none⟩) n P.dc) := HN.out ▸ (memP.cells HJ.out.right.right).2.1
                  have p2 := memP.sim HJ.out.right.right HSA.out
                  obtain ⟨fb, hfb⟩ : ∃ fb, (match Dk.get pth d.fs with | some f => f.b | none => []) = fb := ⟨_, rfl⟩
                  obtain ⟨tx, htx⟩ : ∃ tx, txt d pth = tx := ⟨_, rfl⟩
                  have htx2 : pth ++ 0 :: fb = tx := by rw [← htx, ← hfb]; rfl
                  obtain ⟨p0, hp0⟩ : ∃ p0, pth ++ [0] = p0 := ⟨_, rfl⟩
                  have y1 : bstr pth ++ ({ data := #[0] } : ByteArray) = bstr p0 := by rw [← hp0]; exact bstr_cat pth [0]
                  have y2 : bstr p0 ++ bstr fb = bstr tx := by rw [bstr_cat, ← htx2, ← hp0]; simp
                  have hp0l : p0.length = pth.length + 1 := by rw [← hp0]; simp
                  have hfl : fb.length ≤ 4194304 := by
                    have h1 := olen_le pth d.fs
                    have h2 := (HD.out.1 ▸ (HSN.out.getD j) : Snd d).bytes
                    rw [← hfb]
                    unfold olen at h1
                    cases hg : Dk.get pth d.fs with
                    | none => simp
                    | some f => rw [hg] at h1; simp only at h1 ⊢; omega
                  have hz1 : (pth.length : Int) + 1 ≤ 9223372036854775807 := by have := HP.out.2.2; omega
                  have hz2 : (p0.length : Int) + (fb.length : Int) ≤ 9223372036854775807 := by have := HP.out.2.2; omega
                  have HFB := Lib.hid (And.intro hfb htx)
                  have FL : Hid (Calls Tryz.prog 47 #[.pointer (some ⟨sa, 0, none⟩), .string (bstr pth)] wr.drew fun e w' => ∃ ua uc bs bo, e = .returned (.tuple #[.slice ua fb.length uc, .bool bs, .bool bo]) ∧ (fun w' : World => w'.cell? ⟨P.pb, 1, none⟩ = some (.slice (some ⟨P.db, 0, none⟩) n P.dc) ∧ w'.cell? ⟨P.db, j, none⟩ = some (.pointer (some ⟨sa, 0, none⟩)) ∧ w'.cell? ⟨b1, o1 + k, none⟩ = some (.string (bstr pth))) w' ∧ Lab w w' ((ownT 5 (.slice ua fb.length uc) (bvs fb)).star ((ownT 9 (.slice (some ⟨b1, o1, none⟩) q fc) (pvs (paths d.fs))).star ((ownT 9 (.slice xa N xc) (pvs (W0 ++ wtk d k))).star (memP P s t0 YY))))) := Lib.hid (by
                    refine (Lab.alookX HJ.out.drew (HJ.out.drew.right.right.ent memP_in) (HOK.out _ HLN.out) HSN.out HSA.out pth (by have := HP.out.2.2; unfold maxLen; omega)).mono ?_
                    rintro e w' ⟨u, k1, k2⟩
                    rw [HD.out.1] at k1 k2
                    rw [HFB.out.1] at k2
                    obtain ⟨ua, uc, rfl⟩ := Own.slice' (ownT.own k2.left)
                    rw [bvs_len] at k1 k2
                    refine ⟨ua, uc, _, _, k1, ⟨HN.out ▸ (memP.cells k2.right.right.right).2.1, memP.sim k2.right.right.right HSA.out, ?_⟩, k2⟩
                    obtain ⟨b2, o2, e2, e3⟩ := Strs.at (ownT.own k2.right.left) (List.getElem?_eq_some_iff.1 HP.out.1).1
                    rw [(List.getElem?_eq_some_iff.1 HP.out.1).2] at e3
                    simp only [Option.some.injEq, Addr.mk.injEq, and_true] at e2
                    obtain ⟨rfl, rfl⟩ := e2
                    exact e3)
                  have S0 : (fun w' : World => w'.cell? ⟨P.pb, 1, none⟩ = some (.slice (some ⟨P.db, 0, none⟩) n P.dc) ∧ w'.cell? ⟨P.db, j, none⟩ = some (.pointer (some ⟨sa, 0, none⟩)) ∧ w'.cell? ⟨b1, o1 + k, none⟩ = some (.string (bstr pth))) wr.drew := ⟨p1, p2, e1⟩
                  have a1 : binOp .add 9 (.string (bstr pth)) (.string ({ data := #[0] } : ByteArray)) = pure (.string (bstr p0)) := stradd_eq y1 (by have := HP.out.2.2; show pth.length + 1 ≤ _; omega)
                  have a2 : binOp .add 9 (.string (bstr p0)) (.string (bstr fb)) = pure (.string (bstr tx)) := stradd_eq y2 (by have := HP.out.2.2; show p0.length + fb.length ≤ _; omega)
                  have a3 := fun W => run_stradd (P := Tryz.prog) (t := 9) y1 (by have := HP.out.2.2; show pth.length + 1 ≤ _; omega) W
                  have a4 := fun W => run_stradd (P := Tryz.prog) (t := 9) y2 (by have := HP.out.2.2; show p0.length + fb.length ≤ _; omega) W
                  clear p1 p2 hfb htx htx2 hp0 hp0l hz1 hz2
                  go_wp2_with fail
                  go_region_held3 (fun w' : World => w'.cell? ⟨P.pb, 1, none⟩ = some (.slice (some ⟨P.db, 0, none⟩) n P.dc) ∧ w'.cell? ⟨P.db, j, none⟩ = some (.pointer (some ⟨sa, 0, none⟩)) ∧ w'.cell? ⟨b1, o1 + k, none⟩ = some (.string (bstr pth))) (assumption) (first | (go_at_call 47; refine FL.out.mono ?_; rintro e w8 ⟨ua, uc, bs, bo, rfl, hS8, hL8⟩))
                  have L8 := Lib.hid hL8.third
                  have SK := Lib.hid (show ∀ W v xs, Lab w W ((ownT 9 v xs).star ((ownT 5 (.slice ua fb.length uc) (bvs fb)).star ((ownT 9 (.slice (some ⟨b1, o1, none⟩) q fc) (pvs (paths d.fs))).star (memP P s t0 YY)))) → (fun w' : World => w'.cell? ⟨b1, o1 + k, none⟩ = some (.string (bstr pth)) ∧ (convert 24 9 (.slice ua fb.length uc)).run Tryz.prog w' = .ok (.string (bstr fb)) w') W from fun W v xs h => by
                    obtain ⟨b2, o2, e2, e3⟩ := Strs.at (ownT.own h.right.right.left) (List.getElem?_eq_some_iff.1 HP.out.1).1
                    rw [(List.getElem?_eq_some_iff.1 HP.out.1).2] at e3
                    simp only [Option.some.injEq, Addr.mk.injEq, and_true] at e2
                    obtain ⟨rfl, rfl⟩ := e2
                    exact ⟨e3, str_conv (ownT.own h.right.left).cells W (Ext.refl _)⟩)
                  have x8 := L8.out.drew
                  have S9 : (fun w' : World => w'.cell? ⟨b1, o1 + k, none⟩ = some (.string (bstr pth)) ∧ (convert 24 9 (.slice ua fb.length uc)).run Tryz.prog w' = .ok (.string (bstr fb)) w') w8.drew := SK.out _ _ _ x8
                  have HLC := Lib.hid (show N = (pvs (W0 ++ wtk d k)).length ∧ (pvs (W0 ++ wtk d k)).length ≤ 100000 by rw [pvs_len]; exact ⟨HNL.out, by rw [List.length_append]; omega⟩)
                  clear S0 FL hS8 hL8 e1
                  go_wp2_with fail
                  go_region_held_law (fun w' : World => w'.cell? ⟨b1, o1 + k, none⟩ = some (.string (bstr pth)) ∧ (convert 24 9 (.slice ua fb.length uc)).run Tryz.prog w' = .ok (.string (bstr fb)) w') (first | assumption | exact SK.out _ _ _ hL9 | exact SK.out _ _ _ (x8.ext ((Ext.refl _).alloc (Nat.le_refl _) _))) ((refine step_of_wp rfl (wp_lapp1 _ _ 29 9 (.string ByteArray.empty) 16 rfl Tryz.underlying29 info_str rfl (by decide) rfl rfl rfl HLC.out.1 x8 rfl HLC.out.2 ?_); intro ad c w9 hL9))
                  have HS2 := Lib.hid (show pvs (W0 ++ wtk d k) ++ [.string (bstr tx)] = pvs (W0 ++ wtk d (k + 1)) ∧ N + 1 = (W0 ++ wtk d (k + 1)).length by
                    rw [HP.out.2.1, if_neg HNE.out, HFB.out.2, ← List.append_assoc]
                    exact ⟨by simp [pvs], by rw [List.length_append, HNL.out]; rfl⟩)
                  rw [HS2.out.1] at hL9
                  have L9 := Lib.hid hL9.right.right.left
                  have L10 := Lib.hid (show Lab w w9 ((ownT 9 (.slice (some ⟨b1, o1, none⟩) q fc) (pvs (paths d.fs))).star ((ownT 9 (.slice ad (N + 1) c) (pvs (W0 ++ wtk d (k + 1)))).star (memP P s t0 YY))) from (hL9.ent (.star (.refl _) .right)).swap)
                  clear S9 x8 hL9 SK y1 y2 a1 a2 a3 a4
                  go_wp2_with fail
                  exact ⟨⟨k + 1, N + 1, ad, c, by omega, by go_num, rfl, Lib.hid HS2.out.2, L10⟩, by simp [intOf]; omega⟩
                · obtain rfl : k = q := by omega
                  clear hkq
                  have HW1 := Lib.hid (show W0 ++ wtk d k = WT s.ds (j + 1) by rw [WT_succ, HD.out.1, HD.out.2.2.2, wtk_all d k HD.out.2.1.symm])
                  go_wp2_with fail
                  exact ⟨⟨j + 1, xa, xc, by omega, by go_num, by rw [← HW1.out, HNL.out], Lib.hid (by rw [← HW1.out, ← HNL.out]; exact HJ.out.right)⟩, by simp [intOf]; omega⟩
            · obtain rfl : j = n := by omega
              clear hjn
              obtain ⟨wa0, rfl⟩ : ∃ x, x = wa := ⟨_, rfl⟩
              obtain ⟨wc0, rfl⟩ : ∃ x, x = wc := ⟨_, rfl⟩
              obtain ⟨WX, hWX⟩ : ∃ WX, WT s.ds j = WX := ⟨_, rfl⟩
              rw [hWX] at HI ⊢
              have HWX := Lib.hid (show WX = NT (s.ds.map cl) j from hWX ▸ WT_cl s.ds j (by rw [HLN.out]; exact Nat.le_refl _))
              obtain ⟨V, hV⟩ : ∃ V, (vcl s K M).length = V := ⟨_, rfl⟩
              obtain ⟨qq, hqq⟩ : ∃ qq, quo K M = qq := ⟨_, rfl⟩
              obtain ⟨T, hT⟩ : ∃ T, tm % 3 = T := ⟨_, rfl⟩
              have hT3 : T < 3 := by rw [← hT]; exact Nat.mod_lt _ (by decide)
              have htr : (tm : Int).tmod 3 = (T : Nat) := by rw [← hT]; rfl
              have htr2 : (tm : Int) % 3 = (T : Nat) := by rw [← hT]; rfl
              have HVQ := Lib.hid (And.intro hV hqq)
              have hvl : V ≤ j := by rw [← hV]; unfold vcl; exact Nat.le_trans (List.length_filter_le ..) (by rw [List.length_range, HLN.out]; exact Nat.le_refl _)
              have HCL := Lib.hid (show ∀ k, Gd ⟨some ⟨0, k, false⟩, s.ds.map cl⟩ k ∧ ASnd ⟨some ⟨0, k, false⟩, s.ds.map cl⟩ k ∧ (⟨some ⟨0, k, false⟩, s.ds.map cl⟩ : AS).ds.length = j from fun k => ⟨HGD.out.cl, ⟨fun x hx => by
                obtain ⟨y, hy, rfl⟩ := List.mem_map.1 hx
                exact (HSN.out.ds y hy).del (d' := cl y) rfl rfl, Nat.le_refl _, by have := HSN.out.len; simpa using this⟩, by simpa using HLN.out⟩)
              have LS := Lib.hid (show Lab w wr (memP P s t0 ((ownT 9 (.slice wa0 WX.length wc0) (pvs WX)).star YY)) from HI.out.ent memP_push)
              obtain ⟨Y2, hY2⟩ : ∃ Y2, (ownT 9 (.slice wa0 WX.length wc0) (pvs WX)).star YY = Y2 := ⟨_, rfl⟩
              rw [hY2] at LS
              have HY2 := Lib.hid hY2
              clear HI hV hqq hT hWX hY2
              go_wp2_with fail
              clear p1
              go_loopw [18, 19, 20] (fun v18 v19 v20 wr => ∃ (i : Nat), i ≤ 1 + T ∧ v20 = .int .i64 (i : Nat) ∧ ((i = 0 ∧ v18 = .int .i64 0 ∧ v19 = .int .i64 0 ∧ Hid (Lab w wr (memP P s t0 Y2))) ∨ (0 < i ∧ v18 = .int .i64 (V : Nat) ∧ v19 = .int .i64 (short V qq : Nat) ∧ Hid (Lab w wr (memP P ⟨some ⟨0, m + i * (j + j), false⟩, s.ds.map cl⟩ t0 Y2))))) (fun _ _ v20 _ => (1 + T - intOf v20).toNat)
              case atStart => exact ⟨0, by omega, rfl, .inl ⟨rfl, rfl, rfl, LS⟩⟩
              case round =>
                obtain ⟨i, hi, rfl, hI⟩ := hrel
                by_cases hlt : i < 1 + T
                · have hlt' : (i : Int) < 1 + (T : Int) := by omega
                  rcases hI with ⟨rfl, rfl, rfl, HI⟩ | ⟨hi0, rfl, rfl, HI⟩
                  · have p0 := (memP.cells HI.out).1
                    go_wp2_with fail
                    refine (pstart_a HI.out (HOK.out _ HLN.out) HSN.out (by omega)).mono ?_; rintro e w5 ⟨rfl, hL⟩
                    rw [HK.out.1, HK.out.2, starts_gd HGD.out, HVQ.out.1, HVQ.out.2] at hL ⊢
                    rw [HLN.out] at hL
                    have L5 := Lib.hid hL
                    clear hL p0
                    go_wp2_with fail
                    exact ⟨⟨0 + 1, by omega, rfl, .inr ⟨by omega, rfl, rfl, Lib.hid (by rw [show m + (0 + 1) * (j + j) = m + j + j by omega]; exact L5.out)⟩⟩, by simp [intOf]; omega⟩
                  · have p0 := (memP.cells HI.out).1
                    have hmul : i * (j + j) ≤ 3 * 48 := Nat.mul_le_mul (by omega) (by omega)
                    have hmul2 : m + i * (j + j) + j + j = m + (i + 1) * (j + j) := by rw [Nat.succ_mul]; omega
                    go_wp2_with fail
                    refine (pstart_a HI.out (HOK.out _ (HCL.out (m + i * (j + j))).2.2) (HCL.out (m + i * (j + j))).2.1 (by omega)).mono ?_; rintro e w5 ⟨rfl, hL⟩
                    rw [HK.out.1, HK.out.2, starts_again _ m HGD.out, HVQ.out.1, HVQ.out.2] at hL ⊢
                    rw [HLN.out, hmul2] at hL
                    have L5 := Lib.hid hL
                    clear hL p0
                    go_wp2_with fail
                    exact ⟨⟨i + 1, by omega, by go_num, .inr ⟨by omega, rfl, rfl, L5⟩⟩, by simp [intOf]; omega⟩
                · obtain rfl : i = 1 + T := by omega
                  clear hlt
                  obtain ⟨-, rfl, rfl, HI⟩ := hI.resolve_left (fun h => by omega)
                  have hmul : (1 + T) * (j + j) ≤ 3 * 48 := Nat.mul_le_mul (by omega) (by omega)
                  obtain ⟨m2, hm2⟩ : ∃ m2, m + (1 + T) * (j + j) = m2 := ⟨_, rfl⟩
                  rw [hm2] at HI
                  have hm29 : m2 ≤ 1000 := by omega
                  obtain ⟨s2, hs2⟩ : ∃ s2 : AS, s2 = ⟨some ⟨0, m2, false⟩, s.ds.map cl⟩ := ⟨_, rfl⟩
                  rw [← hs2] at HI
                  have HSN2 := Lib.hid (show ASnd s2 m2 from hs2 ▸ (HCL.out m2).2.1)
                  have HPS2 := Lib.hid (show Ps s2 from hs2 ▸ HPS.out.cl _)
                  have HLN2 := Lib.hid (show s2.ds.length = j from hs2 ▸ (HCL.out m2).2.2)
                  have HNT := Lib.hid (show NT s2.ds j = WX by rw [HWX.out, hs2])
                  have HVA := Lib.hid (show (s2.voices (fmtB K M) s2.ds.length).1 = vcl s K M by rw [hs2]; have := voices_again m2 m HGD.out K M; simpa using this)
                  have LW := Lib.hid (show Lab w wr ((ownT 9 (.slice none 0 0) (pvs (NT s2.ds 0))).star (memP P s2 t0 Y2)) from ownT.nil 9 HI.out)
                  obtain ⟨n, rfl⟩ : ∃ n, n = j := ⟨_, rfl⟩
                  clear HI hm2 hs2 hmul
                  go_wp2_with fail
                  go_loopw [21, 22] (fun v11 v12 wr => ∃ (j : Nat) (wa : Option Addr) (wc : Nat), j ≤ n ∧ v12 = .int .i64 (j : Nat) ∧ v11 = .slice wa (NT s2.ds j).length wc ∧ Hid (Lab w wr ((ownT 9 (.slice wa (NT s2.ds j).length wc) (pvs (NT s2.ds j))).star (memP P s2 t0 Y2)))) (fun _ v12 _ => (n - intOf v12).toNat)
                  case atStart => exact ⟨0, none, 0, by omega, rfl, rfl, LW⟩
                  case round =>
                    obtain ⟨j, wa, wc, hj, rfl, rfl, HI⟩ := hrel
                    have p1 : wr.cell? ⟨P.pb, 1, none⟩ = some (.slice (some ⟨P.db, 0, none⟩) n P.dc) := HN.out ▸ (memP.cells HI.out.right).2.1
                    by_cases hjn : j < n
                    · have hjn' : (j : Int) < (n : Int) := by omega
                      obtain ⟨sa, hsa⟩ : ∃ sa, P.A.ss[j]? = some sa := ⟨_, List.getElem?_eq_getElem (by rw [HN.out]; exact hjn)⟩
                      have p2 := memP.sim HI.out.right hsa
                      have HSA := Lib.hid hsa
                      clear hsa
                      go_wp2_with fail
                      refine (Lab.afiles HI.out (HI.out.right.ent memP_in) (HOK.out _ HLN2.out) HSN2.out HSA.out).mono ?_; rintro e w7 ⟨fv, rfl, hL⟩
                      obtain ⟨d, hd⟩ : ∃ d, (s2.ds.getD j dz) = d := ⟨_, rfl⟩
                      have hdl := (HSN2.out.getD j).len
                      rw [hd] at hL hdl
                      obtain ⟨fa, fc, rfl⟩ := Own.slice' (ownT.own hL.left)
                      obtain ⟨q, hq⟩ : ∃ q, d.fs.length = q := ⟨_, rfl⟩
                      have hpl : (paths d.fs).length = q := by unfold paths; rw [List.length_map, hq]
                      rw [pvs_len, hpl] at hL ⊢
                      rw [hq] at hdl
                      obtain ⟨W0, hW0⟩ : ∃ W0, NT s2.ds j = W0 := ⟨_, rfl⟩
                      rw [hW0] at hL
                      have hwl : W0.length ≤ 4096 * 23 := by rw [← hW0]; exact Nat.le_trans (NT_len (fun j => (HSN2.out.getD j).len) j) (by omega)
                      have HD := Lib.hid (And.intro hd (And.intro hq (And.intro hpl hW0)))
                      have L7 := Lib.hid hL
                      clear hL hd hq hpl hW0 p1 p2
                      go_wp2_with fail
                      go_loopw [21, 24] (fun v11 v14 wr => ∃ (k N : Nat) (xa : Option Addr) (xc : Nat), k ≤ q ∧ v14 = .int .i64 (k : Nat) ∧ v11 = .slice xa N xc ∧ Hid (N = (W0 ++ ntk d k).length) ∧ Hid (Lab w wr ((ownT 9 (.slice fa q fc) (pvs (paths d.fs))).star ((ownT 9 (.slice xa N xc) (pvs (W0 ++ ntk d k))).star (memP P s2 t0 Y2))))) (fun _ v14 _ => (q - intOf v14).toNat)
                      case atStart => exact ⟨0, _, wa, wc, by omega, rfl, rfl, Lib.hid (by rw [HD.out.2.2.2, show ntk d 0 = [] from rfl, List.append_nil]), Lib.hid (by rw [show ntk d 0 = [] from rfl, List.append_nil, HD.out.2.2.2]; exact L7.out)⟩
                      case round =>
                        obtain ⟨k, N, xa, xc, hk, rfl, rfl, HNL, HJ⟩ := hrel
                        by_cases hkq : k < q
                        · have hkq' : (k : Int) < (q : Int) := by omega
                          obtain ⟨pth, hpth⟩ : ∃ pth, (paths d.fs)[k]? = some pth := ⟨_, List.getElem?_eq_getElem (by rw [HD.out.2.2.1]; exact hkq)⟩
                          obtain ⟨b1, o1, rfl, e1⟩ := Strs.at (ownT.own HJ.out.left) (List.getElem?_eq_some_iff.1 hpth).1
                          rw [(List.getElem?_eq_some_iff.1 hpth).2] at e1
                          have hwk := ntk_succ (show (d.fs.map (·.1))[k]? = some pth from hpth)
                          have hpm : pth.length ≤ 600 := (HD.out.1 ▸ (HPS2.out.getD j) : Pd d).path (k := k) hpth
                          have hlk : (ntk d k).length ≤ q := HD.out.2.1 ▸ ntk_len d k
                          have HP := Lib.hid (And.intro hpth (And.intro hwk hpm))
                          clear hpth hwk hpm
                          have p1 : wr.cell? ⟨P.pb, 1, none⟩ = some (.slice (some ⟨P.db, 0, none⟩) n P.dc) := HN.out ▸ (memP.cells HJ.out.right.right).2.1
                          have p2 := memP.sim HJ.out.right.right HSA.out
                          obtain ⟨fb, hfb⟩ : ∃ fb, (match Dk.get pth d.fs with | some f => f.b | none => []) = fb := ⟨_, rfl⟩
                          obtain ⟨tx, htx⟩ : ∃ tx, txt d pth = tx := ⟨_, rfl⟩
                          have htx2 : pth ++ 0 :: fb = tx := by rw [← htx, ← hfb]; rfl
                          obtain ⟨p0, hp0⟩ : ∃ p0, pth ++ [0] = p0 := ⟨_, rfl⟩
                          have y1 : bstr pth ++ ({ data := #[0] } : ByteArray) = bstr p0 := by rw [← hp0]; exact bstr_cat pth [0]
                          have y2 : bstr p0 ++ bstr fb = bstr tx := by rw [bstr_cat, ← htx2, ← hp0]; simp
                          have hp0l : p0.length = pth.length + 1 := by rw [← hp0]; simp
                          have hfl : fb.length ≤ 4194304 := by
                            have h1 := olen_le pth d.fs
                            have h2 := (HD.out.1 ▸ (HSN2.out.getD j) : Snd d).bytes
                            rw [← hfb]
                            unfold olen at h1
                            cases hg : Dk.get pth d.fs with
                            | none => simp
                            | some f => rw [hg] at h1; simp only at h1 ⊢; omega
                          have hz1 : (pth.length : Int) + 1 ≤ 9223372036854775807 := by have := HP.out.2.2; omega
                          have hz2 : (p0.length : Int) + (fb.length : Int) ≤ 9223372036854775807 := by have := HP.out.2.2; omega
                          have HFB := Lib.hid (And.intro hfb htx)
                          have FL : Hid (Calls Tryz.prog 47 #[.pointer (some ⟨sa, 0, none⟩), .string (bstr pth)] wr.drew fun e w' => ∃ ua uc bs bo, e = .returned (.tuple #[.slice ua fb.length uc, .bool bs, .bool bo]) ∧ (fun w' : World => w'.cell? ⟨P.pb, 1, none⟩ = some (.slice (some ⟨P.db, 0, none⟩) n P.dc) ∧ w'.cell? ⟨P.db, j, none⟩ = some (.pointer (some ⟨sa, 0, none⟩)) ∧ w'.cell? ⟨b1, o1 + k, none⟩ = some (.string (bstr pth))) w' ∧ Lab w w' ((ownT 5 (.slice ua fb.length uc) (bvs fb)).star ((ownT 9 (.slice (some ⟨b1, o1, none⟩) q fc) (pvs (paths d.fs))).star ((ownT 9 (.slice xa N xc) (pvs (W0 ++ ntk d k))).star (memP P s2 t0 Y2))))) := Lib.hid (by
                            refine (Lab.alookX HJ.out.drew (HJ.out.drew.right.right.ent memP_in) (HOK.out _ HLN2.out) HSN2.out HSA.out pth (by have := HP.out.2.2; unfold maxLen; omega)).mono ?_
                            rintro e w' ⟨u, k1, k2⟩
                            rw [HD.out.1] at k1 k2
                            rw [HFB.out.1] at k2
                            obtain ⟨ua, uc, rfl⟩ := Own.slice' (ownT.own k2.left)
                            rw [bvs_len] at k1 k2
                            refine ⟨ua, uc, _, _, k1, ⟨HN.out ▸ (memP.cells k2.right.right.right).2.1, memP.sim k2.right.right.right HSA.out, ?_⟩, k2⟩
                            obtain ⟨b2, o2, e2, e3⟩ := Strs.at (ownT.own k2.right.left) (List.getElem?_eq_some_iff.1 HP.out.1).1
                            rw [(List.getElem?_eq_some_iff.1 HP.out.1).2] at e3
                            simp only [Option.some.injEq, Addr.mk.injEq, and_true] at e2
                            obtain ⟨rfl, rfl⟩ := e2
                            exact e3)
                          have S0 : (fun w' : World => w'.cell? ⟨P.pb, 1, none⟩ = some (.slice (some ⟨P.db, 0, none⟩) n P.dc) ∧ w'.cell? ⟨P.db, j, none⟩ = some (.pointer (some ⟨sa, 0, none⟩)) ∧ w'.cell? ⟨b1, o1 + k, none⟩ = some (.string (bstr pth))) wr.drew := ⟨p1, p2, e1⟩
                          have a1 : binOp .add 9 (.string (bstr pth)) (.string ({ data := #[0] } : ByteArray)) = pure (.string (bstr p0)) := stradd_eq y1 (by have := HP.out.2.2; show pth.length + 1 ≤ _; omega)
                          have a2 : binOp .add 9 (.string (bstr p0)) (.string (bstr fb)) = pure (.string (bstr tx)) := stradd_eq y2 (by have := HP.out.2.2; show p0.length + fb.length ≤ _; omega)
                          have a3 := fun W => run_stradd (P := Tryz.prog) (t := 9) y1 (by have := HP.out.2.2; show pth.length + 1 ≤ _; omega) W
                          have a4 := fun W => run_stradd (P := Tryz.prog) (t := 9) y2 (by have := HP.out.2.2; show p0.length + fb.length ≤ _; omega) W
                          clear p1 p2 hfb htx htx2 hp0 hp0l hz1 hz2
                          go_wp2_with fail
                          go_region_held3 (fun w' : World => w'.cell? ⟨P.pb, 1, none⟩ = some (.slice (some ⟨P.db, 0, none⟩) n P.dc) ∧ w'.cell? ⟨P.db, j, none⟩ = some (.pointer (some ⟨sa, 0, none⟩)) ∧ w'.cell? ⟨b1, o1 + k, none⟩ = some (.string (bstr pth))) (assumption) (first | (go_at_call 47; refine FL.out.mono ?_; rintro e w8 ⟨ua, uc, bs, bo, rfl, hS8, hL8⟩))
                          have L8 := Lib.hid hL8.third
                          have SK := Lib.hid (show ∀ W v xs, Lab w W ((ownT 9 v xs).star ((ownT 5 (.slice ua fb.length uc) (bvs fb)).star ((ownT 9 (.slice (some ⟨b1, o1, none⟩) q fc) (pvs (paths d.fs))).star (memP P s2 t0 Y2)))) → (fun w' : World => w'.cell? ⟨b1, o1 + k, none⟩ = some (.string (bstr pth)) ∧ (convert 24 9 (.slice ua fb.length uc)).run Tryz.prog w' = .ok (.string (bstr fb)) w') W from fun W v xs h => by
                            obtain ⟨b2, o2, e2, e3⟩ := Strs.at (ownT.own h.right.right.left) (List.getElem?_eq_some_iff.1 HP.out.1).1
                            rw [(List.getElem?_eq_some_iff.1 HP.out.1).2] at e3
                            simp only [Option.some.injEq, Addr.mk.injEq, and_true] at e2
                            obtain ⟨rfl, rfl⟩ := e2
                            exact ⟨e3, str_conv (ownT.own h.right.left).cells W (Ext.refl _)⟩)
                          have x8 := L8.out.drew
                          have S9 : (fun w' : World => w'.cell? ⟨b1, o1 + k, none⟩ = some (.string (bstr pth)) ∧ (convert 24 9 (.slice ua fb.length uc)).run Tryz.prog w' = .ok (.string (bstr fb)) w') w8.drew := SK.out _ _ _ x8
                          have HLC := Lib.hid (show N = (pvs (W0 ++ ntk d k)).length ∧ (pvs (W0 ++ ntk d k)).length ≤ 100000 by rw [pvs_len]; exact ⟨HNL.out, by rw [List.length_append]; omega⟩)
                          clear S0 FL hS8 hL8 e1
                          go_wp2_with fail
                          go_region_held_law (fun w' : World => w'.cell? ⟨b1, o1 + k, none⟩ = some (.string (bstr pth)) ∧ (convert 24 9 (.slice ua fb.length uc)).run Tryz.prog w' = .ok (.string (bstr fb)) w') (first | assumption | exact SK.out _ _ _ hL9 | exact SK.out _ _ _ (x8.ext ((Ext.refl _).alloc (Nat.le_refl _) _))) ((refine step_of_wp rfl (wp_lapp1 _ _ 29 9 (.string ByteArray.empty) 16 rfl Tryz.underlying29 info_str rfl (by decide) rfl rfl rfl HLC.out.1 x8 rfl HLC.out.2 ?_); intro ad c w9 hL9))
                          have HS2 := Lib.hid (show pvs (W0 ++ ntk d k) ++ [.string (bstr tx)] = pvs (W0 ++ ntk d (k + 1)) ∧ N + 1 = (W0 ++ ntk d (k + 1)).length by
                            rw [HP.out.2.1, HFB.out.2, ← List.append_assoc]
                            exact ⟨by simp [pvs], by rw [List.length_append, HNL.out]; rfl⟩)
                          rw [HS2.out.1] at hL9
                          have L9 := Lib.hid hL9.right.right.left
                          have L10 := Lib.hid (show Lab w w9 ((ownT 9 (.slice (some ⟨b1, o1, none⟩) q fc) (pvs (paths d.fs))).star ((ownT 9 (.slice ad (N + 1) c) (pvs (W0 ++ ntk d (k + 1)))).star (memP P s2 t0 Y2))) from (hL9.ent (.star (.refl _) .right)).swap)
                          clear S9 x8 hL9 SK y1 y2 a1 a2 a3 a4
                          go_wp2_with fail
                          exact ⟨⟨k + 1, N + 1, ad, c, by omega, by go_num, rfl, Lib.hid HS2.out.2, L10⟩, by simp [intOf]; omega⟩
                        · obtain rfl : k = q := by omega
                          clear hkq
                          have HW1 := Lib.hid (show W0 ++ ntk d k = NT s2.ds (j + 1) by rw [NT_succ, HD.out.1, HD.out.2.2.2, ntk_all d k HD.out.2.1.symm])
                          go_wp2_with fail
                          exact ⟨⟨j + 1, xa, xc, by omega, by go_num, by rw [← HW1.out, HNL.out], Lib.hid (by rw [← HW1.out, ← HNL.out]; exact HJ.out.right)⟩, by simp [intOf]; omega⟩
                    · obtain rfl : j = n := by omega
                      clear hjn
                      rw [HNT.out] at HI ⊢
                      have hL0 := HI.out
                      rw [← HY2.out] at hL0
                      have L1 := Lib.hid (show Lab w wr ((ownT 9 (.slice wa WX.length wc) (pvs WX)).star ((ownT 9 (.slice wa0 WX.length wc0) (pvs WX)).star (memP P s2 t0 YY))) from hL0.ent (.star (.refl _) memP_pull))
                      have HWL := Lib.hid (show WX.length ≤ maxLen by rw [← HNT.out]; exact Nat.le_trans (NT_len (fun j => (HSN2.out.getD j).len) j) (by unfold maxLen; omega))
                      obtain ⟨es, hes⟩ : ∃ es, short V qq = es := ⟨_, rfl⟩
                      rw [hes]
                      have HES := Lib.hid hes
                      clear hL0 HI hes
                      go_wp2_with fail
                      refine (texts_same _ _ WX _ (ownT.own L1.out.right.left) (ownT.own L1.out.left) HWL.out).mono ?_; rintro e w8 ⟨rfl, x8⟩
                      have L8 := Lib.hid (L1.out.right.right.ext x8)
                      have p0 := (memP.cells L8.out).1
                      clear x8 p1
                      go_wp2_with fail
                      refine (pvoices_a L8.out (HOK.out _ HLN2.out) HSN2.out (by omega)).mono ?_; rintro e w9 ⟨u, rfl, hL⟩
                      rw [HK.out.1, HK.out.2, HVA.out] at hL
                      obtain ⟨ua, uc, rfl⟩ := Own.slice' (ownT.own hL.left)
                      rw [show (ivs ((vcl s K M).map Int.ofNat)).length = V by simp [HVQ.out.1]]
                      have L9 := Lib.hid hL.right
                      replace p0 := (memP.cells L9.out).1
                      have HKQ := Lib.hid (show P.A.Ok (s2.voices (fmtB K M) s2.ds.length).2 from HOK.out _ ((AS.voices_len ..).trans HLN2.out))
                      clear hL
                      go_wp2_with fail
                      refine (aquorum_any P.A _ HKQ.out w _ (memP.arr L9.out)).mono ?_; rintro e w10 ⟨rfl, x10⟩
                      rw [HK.out.1, HK.out.2, HVQ.out.2]
                      have X10 := Lib.hid (Ext.trans L9.out.toExt x10)
                      clear x10 p0
                      by_cases hq : V < qq
                      · have hqi : (V : Int) < (qq : Int) := by omega
                        obtain rfl : es = 11 := by rw [← HES.out, short, if_pos hq]
                        clear hq
                        go_wp2_with fail
                        go_ret
                        exact ⟨by first | (simp; done) | (simp; omega), X10.out⟩
                      · have hqi : (qq : Int) ≤ (V : Int) := by omega
                        obtain rfl : es = 0 := by rw [← HES.out, short, if_neg hq]
                        clear hq
                        go_wp2_with fail
                        go_ret
                        exact ⟨by first | (simp; done) | (simp; omega), X10.out⟩
end Go.Proofs.YthkbbcdnmdjhdaaGreat
