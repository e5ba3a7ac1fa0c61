/-
  DiskFails: the walk.
-/
import Derived.Test.YtnphkddhckcpmaaDkQ
namespace Go.Proofs.Ytnphkddhckcpmaa
open Go.RowKit Dk
set_option maxRecDepth 100000
set_option maxHeartbeats 4000000
attribute [local go_sem] min_int2 max_int2 bstr_toList

theorem fails_any (w : World) (n : UInt8) (v : Value) (l : List Deed) (hV : Deeds w v l) (hl : l.length ≤ maxLen) :
    Calls Try.prog 7 #[bv n, v] w fun e w' => e = .returned (.bool true) ∧ Ext w w' := by
  obtain ⟨a, c, rfl⟩ := hV.form
  have HV := Lib.hid hV
  have HL := Lib.hid hl
  clear hV hl
  obtain ⟨k, hk⟩ : ∃ k : Nat, n.toNat % 20 = k := ⟨_, rfl⟩
  have ek : Go.RowKit.wrap64 (n.toNat : Int) % 20 = (k : Int) := by
    have := n.toNat_lt
    rw [show Go.RowKit.wrap64 (n.toNat : Int) = (n.toNat : Int) from by unfold Go.RowKit.wrap64; omega, ← hk]
    norm_cast
  have ek2 : (Go.RowKit.wrap64 (n.toNat : Int)).tmod 20 = (k : Int) := by
    have := n.toNat_lt
    rw [show Go.RowKit.wrap64 (n.toNat : Int) = (n.toNat : Int) from by unfold Go.RowKit.wrap64; omega, ← hk]
    exact (Int.ofNat_tmod _ 20).symm
  have k20 : k < 20 := by omega
  have EK := Lib.hid (And.intro ek ek2)
  clear hk ek ek2
  go_enter Try.func7, Try.ntmps7
  go_wp2_with fail
  refine (dawake_any _).mono ?_; rintro e w1 ⟨rfl, x1⟩
  have HV1 := Lib.hid (HV.out.ext x1)
  have X1 := Lib.hid x1
  clear x1
  go_wp2_with fail
  by_cases hR : l.length ≤ 50 ∧ ∀ x ∈ l, x.small
  case neg =>
    have HR := Lib.hid hR
    clear hR
    refine (room_any _ l 50 false (by omega) ⟨(fun h => Bool.noConfusion h), fun h => absurd h HR.out⟩ HL.out _ HV1.out).mono ?_; rintro e w' ⟨rfl, rfl⟩
    go_wp2_with fail
    go_ret
    exact ⟨rfl, X1.out⟩
  have HR := Lib.hid hR
  have hl50 : l.length ≤ 50 := hR.1
  clear hR
  refine (room_any _ l 50 true (by omega) ⟨fun _ => HR.out, fun _ => rfl⟩ HL.out _ HV1.out).mono ?_; rintro e w' ⟨rfl, rfl⟩
  go_wp2_with fail
  refine (new_any 1000000 none _ (fun b hb => by cases hb)).mono ?_; rintro e w2 ⟨rfl, hS, x2⟩
  obtain ⟨s, hs⟩ : ∃ s, w1.heap.size + 1 = s := ⟨_, rfl⟩
  rw [hs] at hS ⊢
  have F2 := Lib.hid (show FL w w2 s ⟨1000000, false, 0, []⟩ (Grow (fun _ => False) w1 w2) from ⟨hS, fun b hb => hb.elim False.elim fun h => Nat.le_trans X1.out.size h.1, Ext.trans X1.out x2⟩)
  clear hS hs x2
  obtain ⟨S, hSS⟩ : ∃ S, Grow (fun _ => False) w1 w2 = S := ⟨_, rfl⟩
  rw [hSS] at F2
  clear hSS
  have cs := fun (w : World) (C : Array Value) (n c : Nat) => Lib.run_convert_bytes_const (P := Try.prog) w 30 5 C n c Try.underlying30 Try.underlying5
  have b0 := const_bytes w2 was #[.int .u8 119, .int .u8 97, .int .u8 115] rfl (3, 4)
  have x3 : Ext w2 (w2.alloc (.cells #[.int .u8 119, .int .u8 97, .int .u8 115] 5 (3, 4))) := (Ext.refl w2).alloc (Nat.le_refl _) _
  have B0 := Lib.hid (And.intro b0 (F2.out.ext x3))
  clear b0 x3
  go_wp2_with fail
  clear cs
  refine (write_any s none none _ S [120] _ was _ B0.out.2.hs trivial (by decide) (by decide) B0.out.1 (by decide) (by decide) (by decide)).mono ?_
  rw [show writes none ⟨1000000, false, 0, []⟩ [120] was = (0, none, ⟨1000000, false, 0, [([120], ⟨was, false⟩)]⟩) from by kernel_rfl]
  rintro e w3 ⟨rfl, -, hS, hg⟩
  have hF := B0.out.2.grow hS hg
  obtain ⟨S3, hSS⟩ : ∃ S3, Grow S (w2.alloc (.cells #[.int .u8 119, .int .u8 97, .int .u8 115] 5 (3, 4))) w3 = S3 := ⟨_, rfl⟩
  rw [hSS] at hF
  have F3 := Lib.hid hF
  clear hS hg hF hSS B0
  go_wp2_with fail
  rw [EK.out.2]
  refine (fail_any s none _ S3 (k : Int) (by omega) _ F3.out.hs).mono ?_; rintro e w4 ⟨rfl, hS, hg⟩
  have F4 := Lib.hid (show FL w w4 s ⟨1000000, false, k, [([120], ⟨was, false⟩)]⟩ S3 from F3.out.same hS hg)
  clear hS hg
  go_wp2_with fail
  go_loopw [7] (fun v7 wr => ∃ (i : Nat) (d : DS) (S : Nat → Prop), i ≤ l.length ∧ v7 = .int .i64 (i : Nat) ∧ Hid (FL w wr s d S ∧ FState k i d)) (fun v7 _ => (l.length - intOf v7).toNat)
  case atStart => exact ⟨0, _, _, by omega, rfl, Lib.hid ⟨F4.out, rfl, rfl, rfl, .inl rfl⟩⟩
  case round =>
    obtain ⟨i, d, S, hi, rfl, HI⟩ := hrel
    by_cases hlt : i < l.length
    · have hlt' : (i : Int) < (l.length : Int) := by omega
      have hx : l[i]? = some l[i] := List.getElem?_eq_getElem hlt
      have hsm := HR.out.2 _ (List.getElem_mem hlt)
      obtain ⟨x, hxx⟩ : ∃ x, l[i] = x := ⟨_, rfl⟩
      rw [hxx] at hx hsm
      have HX0 := Lib.hid hx
      obtain ⟨ok, b, o, rfl, da, dc, c0, c1, c2, c3, c4, c5⟩ := (HV.out.ext HI.out.1.ex).at hx
      have HX := Lib.hid (And.intro ok (And.intro c5 hsm.2.2))
      have h5000 : x.data.length ≤ 5000 := hsm.2.2
      clear ok c0 c1 c2 c3 c5 hsm hx hxx
      go_wp2_with fail
      have ht := fstate_tot HI.out.2
      by_cases hik : i < k
      · obtain ⟨d', hw, hst, hgt⟩ := fstate_io HI.out.2 hik x.data
        refine (write_any s none none d S [121] _ x.data _ HI.out.1.hs trivial (by decide) (by decide) HX.out.2.1 (by omega) (by omega) (by omega)).mono ?_
        rw [hw]; rintro e w5 ⟨rfl, -, hS, hg⟩
        have hF := HI.out.1.grow hS hg
        obtain ⟨S5, hSS⟩ : ∃ S5, Grow S wr w5 = S5 := ⟨_, rfl⟩
        rw [hSS] at hF
        have F5 := Lib.hid (And.intro hF (And.intro hst hgt))
        have q0 : (i : Int) < (k : Int) := by omega
        have q1 : decide (k ≤ i) = false := by simpa using hik
        have q2 : decide ((k : Int) ≤ (i : Int)) = false := by simpa using hik
        clear hS hg hw hst hgt c4 ht hF hSS
        go_wp2_with fail
        have ht := fstate_tot F5.out.2.1
        refine (look_any s none d' S5 [121] _ F5.out.1.hs (by decide) (by omega)).mono ?_; rintro e w6 ⟨u, rfl, hU, x6⟩
        obtain ⟨ua, uc, rfl⟩ := Own.slice' hU
        rw [F5.out.2.2]
        have F6 := Lib.hid (F5.out.1.ext x6)
        clear hU x6 ht
        go_wp2_with fail
        have FN := Lib.hid (F6.out.ext (Ext.of_drawn _ 1))
        have hS : (fun _ : World => True) w6.drew := trivial
        refine wp_cutw [78, 79, 80, 81, 82, 83, 84, 85, 86, 87, 88, 89, 90, 91, 92, 93, 94, 95] 96 (.bool false) (fun w8 => FL w w8 s d' S5) ?_ ?_
        · refine wp_region_U (fun _ : World => True) 19 (by kernel_rfl) ?_
          refine wpU_pureL (i := 0) (j := 78) (v := ?_) rfl rfl (by kernel_rfl) (by kernel_rfl) (by kernel_rfl) (by decide) (fun _ _ _ h => h) (fun _ => hS) (Or.inl ⟨by rfl, fun _ _ => ?_⟩) ?_
          rotate_left
          · go_simp
            try with_reducible rfl
          refine wpU_pureL (i := 1) (j := 79) (v := ?_) rfl rfl (by kernel_rfl) (by kernel_rfl) (by kernel_rfl) (by decide) (fun _ _ _ h => h) (fun _ => hS) (Or.inl ⟨by rfl, fun _ _ => ?_⟩) ?_
          rotate_left
          · go_simp
            try with_reducible rfl
          refine wpU_pureL (i := 2) (j := 80) (v := ?_) rfl rfl (by kernel_rfl) (by kernel_rfl) (by kernel_rfl) (by decide) (fun _ _ _ h => h) (fun _ => hS) (Or.inl ⟨by rfl, fun _ _ => ?_⟩) ?_
          rotate_left
          · go_simp
            try with_reducible rfl
          refine wpU_pureL (i := 3) (j := 81) (v := ?_) rfl rfl (by kernel_rfl) (by kernel_rfl) (by kernel_rfl) (by decide) (fun _ _ _ h => h) (fun _ => hS) (Or.inl ⟨by rfl, fun _ _ => ?_⟩) ?_
          rotate_left
          · go_simp
            try with_reducible rfl
          refine wpU_pureL (i := 4) (j := 82) (v := ?_) rfl rfl (by kernel_rfl) (by kernel_rfl) (by kernel_rfl) (by decide) (fun _ _ _ h => h) (fun _ => hS) (Or.inl ⟨by rfl, fun _ _ => ?_⟩) ?_
          rotate_left
          · go_simp
            try with_reducible rfl
          refine wpU_pureL (i := 5) (j := 83) (v := ?_) rfl rfl (by kernel_rfl) (by kernel_rfl) (by kernel_rfl) (by decide) (fun _ _ _ h => h) (fun _ => hS) (Or.inl ⟨by rfl, fun _ _ => ?_⟩) ?_
          rotate_left
          · go_simp
            try with_reducible rfl
          refine wpU_pureL (i := 6) (j := 84) (v := ?_) rfl rfl (by kernel_rfl) (by kernel_rfl) (by kernel_rfl) (by decide) (fun _ _ _ h => h) (fun _ => hS) (Or.inl ⟨by rfl, fun _ _ => ?_⟩) ?_
          rotate_left
          · go_simp
            try with_reducible rfl
          refine wpU_pureL (i := 7) (j := 85) (v := ?_) rfl rfl (by kernel_rfl) (by kernel_rfl) (by kernel_rfl) (by decide) (fun _ _ _ h => h) (fun _ => hS) (Or.inl ⟨by rfl, fun _ _ => ?_⟩) ?_
          rotate_left
          · go_simp
            try with_reducible rfl
          refine wpU_pureL (i := 8) (j := 86) (v := undef) rfl rfl (by kernel_rfl) (by kernel_rfl) (by kernel_rfl) (by decide) (fun _ _ _ h => h) (fun _ => hS) (Or.inr ⟨by kernel_rfl, rfl⟩) ?_
          refine wpU_pureL (i := 9) (j := 87) (v := undef) rfl rfl (by kernel_rfl) (by kernel_rfl) (by kernel_rfl) (by decide) (fun _ _ _ h => h) (fun _ => hS) (Or.inr ⟨by kernel_rfl, rfl⟩) ?_
          refine wpU_pureL (i := 10) (j := 88) (v := undef) rfl rfl (by kernel_rfl) (by kernel_rfl) (by kernel_rfl) (by decide) (fun _ _ _ h => h) (fun _ => hS) (Or.inr ⟨by kernel_rfl, rfl⟩) ?_
          refine wpU_pureL (i := 11) (j := 89) (v := undef) rfl rfl (by kernel_rfl) (by kernel_rfl) (by kernel_rfl) (by decide) (fun _ _ _ h => h) (fun _ => hS) (Or.inr ⟨by kernel_rfl, rfl⟩) ?_
          refine wpU_pureL (i := 12) (j := 90) (v := undef) rfl rfl (by kernel_rfl) (by kernel_rfl) (by kernel_rfl) (by decide) (fun _ _ _ h => h) (fun _ => hS) (Or.inr ⟨by kernel_rfl, rfl⟩) ?_
          refine wpU_pureL (i := 13) (j := 91) (v := undef) rfl rfl (by kernel_rfl) (by kernel_rfl) (by kernel_rfl) (by decide) (fun _ _ _ h => h) (fun _ => hS) (Or.inr ⟨by kernel_rfl, rfl⟩) ?_
          refine wpU_pureL (i := 14) (j := 92) (v := undef) rfl rfl (by kernel_rfl) (by kernel_rfl) (by kernel_rfl) (by decide) (fun _ _ _ h => h) (fun _ => hS) (Or.inr ⟨by kernel_rfl, rfl⟩) ?_
          refine wpU_pureL (i := 15) (j := 93) (v := undef) rfl rfl (by kernel_rfl) (by kernel_rfl) (by kernel_rfl) (by decide) (fun _ _ _ h => h) (fun _ => hS) (Or.inr ⟨by kernel_rfl, rfl⟩) ?_
          refine wpU_pureL (i := 16) (j := 94) (v := undef) rfl rfl (by kernel_rfl) (by kernel_rfl) (by kernel_rfl) (by decide) (fun _ _ _ h => h) (fun _ => hS) (Or.inr ⟨by kernel_rfl, rfl⟩) ?_
          refine wpU_pureL (i := 17) (j := 95) (v := ?_) rfl rfl (by kernel_rfl) (by kernel_rfl) (by kernel_rfl) (by decide) (fun _ _ _ h => h) (fun _ => hS) (Or.inl ⟨by kernel_rfl, fun _ _ => ?_⟩) ?_
          rotate_left
          · go_simp
            try with_reducible rfl
          refine wpU_pureL (i := 18) (j := 96) (v := ?_) rfl rfl (by kernel_rfl) (by kernel_rfl) (by kernel_rfl) (by decide) (fun _ _ _ h => h) (fun _ => hS) (Or.inl ⟨by kernel_rfl, fun _ _ => ?_⟩) ?_
          rotate_left
          · go_simp
            try with_reducible rfl
          refine wpU_done (by kernel_rfl) ?_ _
          exact cut_end FN.out (by kernel_rfl)
        · intro us w8 hF8
          have F8 := Lib.hid (And.intro hF8 F5.out.2.1)
          clear hF8 FN F6 hS
          simp only [setAll, List.foldl_cons, List.foldl_nil, List.set_cons_zero, List.set_cons_succ]
          go_wp2_with fail
          exact ⟨⟨i + 1, d', _, by omega, by go_num, F8⟩, by simp [intOf]; omega⟩
      · obtain ⟨d', hw, hst, hgt⟩ := fstate_ok HI.out.2 (by omega) h5000
        refine (write_any s none none d S [121] _ x.data _ HI.out.1.hs trivial (by decide) (by decide) HX.out.2.1 (by omega) (by omega) (by omega)).mono ?_
        rw [hw]; rintro e w5 ⟨rfl, -, hS, hg⟩
        have hF := HI.out.1.grow hS hg
        obtain ⟨S5, hSS⟩ : ∃ S5, Grow S wr w5 = S5 := ⟨_, rfl⟩
        rw [hSS] at hF
        have F5 := Lib.hid (And.intro hF (And.intro hst hgt))
        have q0 : decide (i < k) = false := by simpa using hik
        have q1 : k ≤ i := by omega
        have q2 : (k : Int) ≤ (i : Int) := by omega
        clear hS hg hw hst hgt c4 ht hF hSS
        go_wp2_with fail
        have ht := fstate_tot F5.out.2.1
        refine (look_any s none d' S5 [121] _ F5.out.1.hs (by decide) (by omega)).mono ?_; rintro e w6 ⟨u, rfl, hU, x6⟩
        rw [F5.out.2.2] at hU ⊢
        have hU : Own w6 w5.heap.size 5 u (bvs x.data) := hU
        obtain ⟨ua, uc, hu⟩ := Own.slice' hU
        rw [bvs_len] at hu
        subst hu
        have F6 := Lib.hid (F5.out.1.ext x6)
        obtain ⟨-, b2, o2, e1, da2, dc2, -, -, -, -, c4, c5⟩ := (HV.out.ext F6.out.ex).at HX0.out
        cases e1
        have y1 := str_conv hU.cells
        have y2 := str_conv c5
        have FN := Lib.hid (F6.out.ext (Ext.of_drawn _ 1))
        have S0 : (fun w' : World => w'.cell? ⟨b, o + i * 5 + 4, none⟩ = some (.slice da2 x.data.length dc2) ∧ (convert 30 9 (.slice ua x.data.length uc)).run Try.prog w' = .ok (.string (bstr x.data)) w' ∧ (convert 30 9 (.slice da2 x.data.length dc2)).run Try.prog w' = .ok (.string (bstr x.data)) w') w6.drew := ⟨c4, y1 _ (Ext.of_drawn _ 1), y2 _ (Ext.of_drawn _ 1)⟩
        clear hU c4 c5 y1 y2 x6 ht
        go_wp2_with fail
        go_region_held3 (fun w' : World => w'.cell? ⟨b, o + i * 5 + 4, none⟩ = some (.slice da2 x.data.length dc2) ∧ (convert 30 9 (.slice ua x.data.length uc)).run Try.prog w' = .ok (.string (bstr x.data)) w' ∧ (convert 30 9 (.slice da2 x.data.length dc2)).run Try.prog w' = .ok (.string (bstr x.data)) w') (assumption) (fail)
        have F8 := Lib.hid (And.intro FN.out F5.out.2.1)
        go_wp2_with fail
        exact ⟨⟨i + 1, d', _, by omega, by go_num, F8⟩, by simp [intOf]; omega⟩
    · obtain rfl : i = l.length := by omega
      clear hlt
      have hT := fstate_tot HI.out.2
      have HT := Lib.hid hT
      clear hT
      go_wp2_with fail
      refine (fail_any s none d S 0 (by decide) _ HI.out.1.hs).mono ?_; rintro e w5 ⟨rfl, hS, hg⟩
      have F5 := Lib.hid (show FL w w5 s { d with bad := 0 } S from HI.out.1.same hS hg)
      clear hS hg
      go_wp2_with fail
      refine (offline_any s none _ S true _ F5.out.hs).mono ?_; rintro e w6 ⟨rfl, hS, hg⟩
      obtain ⟨dd, hdd⟩ : ∃ dd : DS, { { d with bad := 0 } with off := true } = dd := ⟨_, rfl⟩
      rw [hdd] at hS
      have ho : dd.off = true := by rw [← hdd]
      have hfs : dd.fs = d.fs := by rw [← hdd]
      have hbd : dd.bad = 0 := by rw [← hdd]
      rw [← hfs] at HT
      have HO := Lib.hid (And.intro ho hbd)
      have F6 := Lib.hid (F5.out.same hS hg)
      clear hS hg hdd hfs ho hbd
      go_wp2_with fail
      refine (write_any s none none dd S [120] _ [] _ F6.out.hs trivial (by decide) (by decide) (Cells.nil _) (by decide) (by have := HT.out; omega) (by have := HT.out; omega)).mono ?_
      rw [off_writes HO.out.1]; rintro e w7 ⟨rfl, -, hS, hg⟩
      have hF := F6.out.grow hS hg
      obtain ⟨S7, hSS⟩ : ∃ S7, Grow S w6 w7 = S7 := ⟨_, rfl⟩
      rw [hSS] at hF
      have F7 := Lib.hid hF
      clear hS hg hF hSS
      go_wp2_with fail
      refine (sync_any s none none dd S7 [120] _ F7.out.hs trivial (by decide) (by decide)).mono ?_
      rw [off_syncs HO.out.1]; rintro e w8 ⟨rfl, -, hS, hg⟩
      have hF := F7.out.grow hS hg
      obtain ⟨S8, hSS⟩ : ∃ S8, Grow S7 w7 w8 = S8 := ⟨_, rfl⟩
      rw [hSS] at hF
      have F8 := Lib.hid hF
      clear hS hg hF hSS
      go_wp2_with fail
      refine (rename_any s none none dd S8 [120] [122] _ F8.out.hs trivial (by decide) (by decide) (by decide) (by have := HT.out; omega)).mono ?_
      rw [off_renames HO.out.1]; rintro e w9 ⟨rfl, -, hS, hg⟩
      have hF := F8.out.grow hS hg
      obtain ⟨S9, hSS⟩ : ∃ S9, Grow S8 w8 w9 = S9 := ⟨_, rfl⟩
      rw [hSS] at hF
      have F9 := Lib.hid hF
      clear hS hg hF hSS
      go_wp2_with fail
      refine (delete_any s none none dd S9 [120] _ F9.out.hs trivial (by decide) (by decide)).mono ?_
      rw [off_deletes HO.out.1]; rintro e wa ⟨rfl, -, hS, hg⟩
      have hF := F9.out.grow hS hg
      obtain ⟨Sa, hSS⟩ : ∃ Sa, Grow S9 w9 wa = Sa := ⟨_, rfl⟩
      rw [hSS] at hF
      have Fa := Lib.hid hF
      clear hS hg hF hSS
      go_wp2_with fail
      refine (read_any s none none dd Sa [120] _ Fa.out.hs trivial (by decide) (by decide) (by have := HT.out; omega)).mono ?_
      rintro e wb ⟨u, he, hU, -, hS, hg⟩
      rw [off_opens HO.out.1] at he
      subst he
      rw [off_begins HO.out.1] at hS
      have Fb := Lib.hid (Fa.out.same hS hg.nof)
      clear hU hS hg
      go_wp2_with fail
      refine (list_off s dd Sa [] _ Fb.out.hs HO.out.1).mono ?_; rintro e wc ⟨rfl, hS, hg⟩
      have Fc := Lib.hid (Fb.out.same hS hg)
      clear hS hg
      go_wp2_with fail
      refine (offline_any s none _ Sa false _ Fc.out.hs).mono ?_; rintro e wd ⟨rfl, hS, hg⟩
      have Fd := Lib.hid (Fc.out.same hS hg)
      have hon := on_read (d := { dd with off := false }) rfl HO.out.2 HT.out.2.2
      have HON := Lib.hid hon
      clear hS hg hon
      go_wp2_with fail
      refine (read_any s none none { dd with off := false } Sa [120] _ Fd.out.hs trivial (by decide) (by decide) (by have := HT.out; exact Nat.le_trans this.1 (by decide))).mono ?_
      rintro e we ⟨u2, he, hU, -, hS, hg⟩
      rw [HON.out.1] at he
      subst he
      rw [HON.out.2.1] at hU
      rw [HON.out.2.2] at hS
      obtain ⟨ua, uc, rfl⟩ := Own.slice' hU
      have y1 : (convert 30 9 (.slice ua was.length uc)).run Try.prog we = .ok (.string (bstr [119, 97, 115])) we := str_conv hU.cells we (Ext.refl _)
      have HE := Lib.hid (Fd.out.same hS hg.nof).ex
      clear hU hS hg
      go_wp2_with fail
      go_ret
      exact ⟨rfl, HE.out⟩
end Go.Proofs.Ytnphkddhckcpmaa
