/-
  DiskPlays: the walk.
-/
import Derived.Test.YtnphkddhckcpmaaD8
/-! XDkPl: DiskPlays: the walk. -/
namespace Go.Proofs.Ytnphkddhckcpmaa
open Go.RowKit Dk
set_option maxRecDepth 100000
set_option maxHeartbeats 4000000
attribute [local go_sem] min_int2 max_int2 bstr_toList bstr_size

/-- Both disks with both fuses. -/
def Two (w w' : World) (s r f1 f2 : Nat) (z : FS) (d : DS) : Prop := Lab w w' ((fuseT (some f1) (some z)).star ((simT s (some f1) d).star ((rfuseT (some f2) (some z)).star ((refT r (some f2) d).star emp))))
theorem plays_law (w : World) (n : Int) (_hn : -9223372036854775808 ≤ n ∧ n ≤ 9223372036854775807) (v : Value) (l : List Deed) (hV : Deeds w v l) (hl : l.length ≤ maxLen) :
    Calls Try.prog 11 #[.int .i64 n, v] w fun e w' => e = .returned (.bool true) ∧ Ext w w' := by
  obtain ⟨a, c, rfl⟩ := hV.form
  have HV := Lib.hid hV
  have HL := Lib.hid hl
  clear hV hl
  go_enter Try.func11, Try.ntmps11
  go_wp2_with fail
  refine (dawake_any _).mono ?_; rintro e w1 ⟨rfl, x1⟩
  have HV1 := Lib.hid (HV.out.ext x1)
  have X1 := Lib.hid x1
  have LY := Lib.hid (show Lab w w1 emp from (Lab.start w).ext X1.out)
  clear x1
  go_wp2_with fail
  by_cases hR : l.length ≤ 80 ∧ ∀ x ∈ l, x.small
  case neg =>
    have HR := Lib.hid hR
    clear hR
    refine (room_any _ l 80 false (by omega) ⟨(fun h => Bool.noConfusion h), fun h => absurd h HR.out⟩ HL.out _ HV1.out).mono ?_; rintro e w' ⟨rfl, rfl⟩
    go_wp2_with fail
    go_ret
    exact ⟨rfl, X1.out⟩
  have HR := Lib.hid hR
  have hl40 : l.length ≤ 80 := hR.1
  clear hR
  refine (room_any _ l 80 true (by omega) ⟨fun _ => HR.out, fun _ => rfl⟩ HL.out _ HV1.out).mono ?_; rintro e w' ⟨rfl, rfl⟩
  go_wp2_with fail
  refine (Lab.newfuse LY.out).mono ?_; rintro e w2 ⟨f1, rfl, hL⟩
  have L2 := Lib.hid (show Lab w w2 ((fuseT (some f1) (some ⟨0, 0, false⟩)).star emp) from hL)
  clear hL
  have hr := Row.new w2 70 #[.int .i64 0, .int .i64 0, .bool false]
  have hx1 : Ext w2 (w2.alloc (.cells #[.int .i64 0, .int .i64 0, .bool false] 70)) := (Ext.refl w2).alloc (Nat.le_refl _) _
  have hL1 := L2.out.new hx1 (X := rfuseT (some w2.heap.size) (some ⟨0, 0, false⟩)) (T := fun b => some w2.heap.size = some b) ⟨⟨hr, by decide, by decide⟩, fun _ => Iff.rfl⟩ (fun _ hb => by cases hb; exact Nat.le_refl _)
  obtain ⟨w3, hw3⟩ : ∃ w3, w2.alloc (.cells #[.int .i64 0, .int .i64 0, .bool false] 70) = w3 := ⟨_, rfl⟩
  obtain ⟨f2, hf2⟩ : ∃ f2, w2.heap.size = f2 := ⟨_, rfl⟩
  rw [hw3, hf2] at hL1
  have L3 := Lib.hid hL1
  have HW3 := Lib.hid (And.intro hw3 hf2)
  clear hr hx1 hL1 hw3 hf2 L2
  go_wp2_with fail
  rw [HW3.out.1, HW3.out.2]
  refine (Lab.newdisk n L3.out.swap).mono ?_; rintro e w4 ⟨s, rfl, hL⟩
  have L4 := Lib.hid hL
  clear hL L3
  go_wp2_with fail
  refine (Lab.newref n L4.out.third).mono ?_; rintro e w5 ⟨r, rfl, hL⟩
  have L5 := Lib.hid hL
  clear hL L4
  have LI := Lib.hid (show Two w w5 s r f1 f2 ⟨0, 0, false⟩ ⟨mostOf n, false, 0, []⟩ ∧ Few ⟨mostOf n, false, 0, []⟩ 0 ∧ (0 : Nat) ≤ 0 from ⟨L5.out.flip, ⟨Up.nil, Nat.le_refl _, Nat.le_refl _⟩, Nat.le_refl _⟩)
  clear L5
  go_wp2_with fail
  go_loopw [9] (fun v9 wr => ∃ (i : Nat) (z : FS) (d : DS), i ≤ l.length ∧ v9 = .int .i64 (i : Nat) ∧ Hid (Two w wr s r f1 f2 z d ∧ Few d i ∧ z.ops ≤ i)) (fun v9 _ => (l.length - intOf v9).toNat)
  case atStart => exact ⟨0, _, _, by omega, rfl, LI⟩
  case round =>
    obtain ⟨i, z, d, hi, rfl, HI⟩ := hrel
    by_cases hlt : i < l.length
    · have hlt' : (i : Int) < (l.length : Int) := by omega
      have hx : l[i]? = some l[i] := List.getElem?_eq_getElem hlt
      have hsm := HR.out.2 _ (List.getElem_mem hlt)
      obtain ⟨x, hxx⟩ : ∃ x, l[i] = x := ⟨_, rfl⟩
      rw [hxx] at hx hsm
      obtain ⟨ok, b, o, rfl, da, dc, c0, c1, c2, c3, c4, c5⟩ := HV.out.at hx
      have HD := Lib.hid (And.intro ok (And.intro c5 hsm))
      replace c0 := HI.out.1.toExt.cell c0
      replace c1 := HI.out.1.toExt.cell c1
      replace c2 := HI.out.1.toExt.cell c2
      replace c3 := HI.out.1.toExt.cell c3
      replace c4 := HI.out.1.toExt.cell c4
      clear ok c5 hsm hx hxx
      obtain ⟨xd, xn, xa, xb, xt⟩ := x
      simp only at c0 c1 c2 c3 c4 HD
      have HBOTH := Lib.hid (show ∀ W, Two w W s r f1 f2 z d → Calls Try.prog 35 #[.pointer (some ⟨s, 0, none⟩), .pointer (some ⟨f1, 0, none⟩), .pointer (some ⟨r, 0, none⟩), .agg #[.int .i64 xd, .int .i64 xn, .string (bstr xa), .string (bstr xb), .slice da xt.length dc]] W fun e w' => e = .returned (.bool true) ∧ ∃ (z' : FS) (d' : DS), Two w w' s r f1 f2 z' d' ∧ Few d' (i + 1) ∧ z'.ops ≤ i + 1 from fun W hT => by
        have hfl := HI.out.2.1.len
        have hft := HI.out.2.1.tot
        have hzo := HI.out.2.2
        by_cases hd : 0 ≤ xd ∧ xd ≤ 6
        · refine (both_any w W emp s r (some f1) (some f2) _ (some z) d ⟨xd, xn, xa, xb, xt⟩ da dc hT hd (Nat.le_trans HD.out.2.2.1 (by decide)) (Nat.le_trans HD.out.2.2.2.1 (by decide)) HD.out.2.1 (Nat.le_trans HD.out.2.2.2.2 (by decide)) (by show z.ops < _; omega) (by omega) (by omega)).mono ?_
          rintro e w' ⟨k1, k2⟩
          obtain ⟨k3, z', k4, k5⟩ := stepB_few (z := z) (x := ⟨xd, xn, xa, xb, xt⟩) HI.out.2.1 HD.out.2.2.2.2
          rw [k4] at k2
          exact ⟨k1, z', _, k2, k3, by omega⟩
        · refine (both_more w W emp s r f1 f2 z d ⟨xd, xn, xa, xb, xt⟩ da dc hT hd HD.out.1.2.1 (Nat.le_trans HD.out.2.2.1 (by decide)) (Nat.le_trans HD.out.2.2.2.1 (by decide)) HD.out.2.1 (Nat.le_trans HD.out.2.2.2.2 (by decide)) (by omega) (by omega)).mono ?_
          rintro e w' ⟨k1, k2⟩
          obtain ⟨k3, k5⟩ := stepC_few (z := z) (x := ⟨xd, xn, xa, xb, xt⟩) HI.out.2.1
          exact ⟨k1, _, _, k2, k3, by omega⟩)
      have HSAME := Lib.hid (show ∀ W z' d', Two w W s r f1 f2 z' d' → Few d' (i + 1) → Calls Try.prog 36 #[.pointer (some ⟨s, 0, none⟩), .pointer (some ⟨r, 0, none⟩)] W fun e w' => e = .returned (.bool true) ∧ Two w w' s r f1 f2 z' d' from fun W z' d' hT hF => by
        have hfl := hF.len
        have hft := hF.tot
        have h1 : Lab w W ((fuseT (some f1) (some z')).star ((simT s (some f1) d').star ((rfuseT (some f2) (some z')).star ((refT r (some f2) d').star emp)))) := hT
        refine (dsame_any w W _ s r (some f1) (some f2) d' h1.swap.fourth.swap (by omega) (by omega)).mono ?_
        rintro e w' ⟨k1, k2⟩
        exact ⟨k1, k2.swap.fourth'.swap⟩)
      have HRZ := Lib.hid (show ∀ W (zn : Int) (zo : Nat) (zb : Bool) (d' : DS), Two w W s r f1 f2 ⟨zn, zo, zb⟩ d' → W.cell? ⟨f2, 2, none⟩ = some (.bool zb) ∧ W.cell? ⟨f2, 1, none⟩ = some (.int .i64 (zo : Nat)) from fun W zn zo zb d' hT => by
        have h1 : Lab w W ((fuseT (some f1) (some ⟨zn, zo, zb⟩)).star ((simT s (some f1) d').star ((rfuseT (some f2) (some ⟨zn, zo, zb⟩)).star ((refT r (some f2) d').star emp)))) := hT
        have h2 := h1.flip.rz
        exact ⟨h2.1.cell (i := 2) rfl, h2.1.cell (i := 1) rfl⟩)
      have hS : (fun w' : World => w'.cell? ⟨b, o + i * 5, none⟩ = some (.int .i64 xd) ∧ w'.cell? ⟨b, o + i * 5 + 1, none⟩ = some (.int .i64 xn) ∧ w'.cell? ⟨b, o + i * 5 + 2, none⟩ = some (.string (bstr xa)) ∧ w'.cell? ⟨b, o + i * 5 + 3, none⟩ = some (.string (bstr xb)) ∧ w'.cell? ⟨b, o + i * 5 + 4, none⟩ = some (.slice da xt.length dc)) wr.drew := ⟨c0, c1, c2, c3, c4⟩
      go_wp2_with fail
      refine wp_cutw [36, 37, 38, 39, 40, 41, 42, 43, 44, 45, 46, 47, 48, 49, 50, 51, 52, 53, 54, 55, 56, 57, 58, 59, 60, 61, 62, 63, 64, 65, 66, 67] 68 (.bool false) (fun w8 : World => ∃ (z' : FS) (d' : DS), Two w w8 s r f1 f2 z' d' ∧ Few d' (i + 1) ∧ z'.ops ≤ i + 1) ?_ ?_
      · refine wp_region_U (fun w' : World => w'.cell? ⟨b, o + i * 5, none⟩ = some (.int .i64 xd) ∧ w'.cell? ⟨b, o + i * 5 + 1, none⟩ = some (.int .i64 xn) ∧ w'.cell? ⟨b, o + i * 5 + 2, none⟩ = some (.string (bstr xa)) ∧ w'.cell? ⟨b, o + i * 5 + 3, none⟩ = some (.string (bstr xb)) ∧ w'.cell? ⟨b, o + i * 5 + 4, none⟩ = some (.slice da xt.length dc)) 7 (by kernel_rfl) ?_
        refine wpU_pureH (i := 0) (j := 36) (v := ?_) rfl rfl (by kernel_rfl) (by kernel_rfl) (by kernel_rfl) (by decide) (fun _ _ _ h => h) (fun _ => hS) (Or.inl ⟨by kernel_rfl, fun _ _ => ?_⟩) ?_
        rotate_left
        · go_simp
          try with_reducible rfl
        refine wpU_pureH (i := 1) (j := 37) (v := ?_) rfl rfl (by kernel_rfl) (by kernel_rfl) (by kernel_rfl) (by decide) (fun _ _ _ h => h) (fun _ => hS) (Or.inl ⟨by kernel_rfl, fun _ _ => ?_⟩) ?_
        rotate_left
        · go_simp
          try with_reducible rfl
        refine wpU_pureH (i := 2) (j := 38) (v := ?_) rfl rfl (by kernel_rfl) (by kernel_rfl) (by kernel_rfl) (by decide) (fun _ _ _ h => h) (fun _ => hS) (Or.inl ⟨by kernel_rfl, fun _ _ => ?_⟩) ?_
        rotate_left
        · go_simp
          try with_reducible rfl
        refine wpU_pureH (i := 3) (j := 39) (v := ?_) rfl rfl (by kernel_rfl) (by kernel_rfl) (by kernel_rfl) (by decide) (fun _ _ _ h => h) (fun _ => hS) (Or.inl ⟨by kernel_rfl, fun _ _ => ?_⟩) ?_
        rotate_left
        · go_simp
          try with_reducible rfl
        refine wpU_pureH (i := 4) (j := 40) (v := ?_) rfl rfl (by kernel_rfl) (by kernel_rfl) (by kernel_rfl) (by decide) (fun _ _ _ h => h) (fun _ => hS) (Or.inl ⟨by kernel_rfl, fun _ _ => ?_⟩) ?_
        rotate_left
        · go_simp
          try with_reducible rfl
        refine wpU_pureH (i := 5) (j := 41) (v := ?_) rfl rfl (by kernel_rfl) (by kernel_rfl) (by kernel_rfl) (by decide) (fun _ _ _ h => h) (fun _ => hS) (Or.inl ⟨by kernel_rfl, fun _ _ => ?_⟩) ?_
        rotate_left
        · go_simp
          try with_reducible rfl
        refine wpU_loadH (i := 6) (j := 42) (v := ?_) rfl rfl (by kernel_rfl) (by kernel_rfl) (by kernel_rfl) (by decide) (by kernel_rfl) (by kernel_rfl) (fun _ _ _ h => h) hS (Or.inl ⟨by kernel_rfl, fun wl hl => ?_⟩) ?_
        rotate_left
        · obtain ⟨l0, l1, l2, l3, l4⟩ := hl
          go_simp
          try with_reducible rfl
        refine wpU_all [7] (by kernel_rfl) (by simp) ?_
        refine ReadyU.cons rfl (fun K hK => ?_) ReadyU.nil
        go_simp
        refine (HBOTH.out _ (Lab.drew HI.out.1)).mono ?_; rintro e w4 ⟨rfl, z', d', hT, hF, hZ⟩
        refine hK.out _ _ (fun h => Bool.noConfusion (show true = false from h)) ?_
        clear hK K
        obtain ⟨zn, zo, zb⟩ := z'
        have HT := Lib.hid (And.intro hT (And.intro hF hZ))
        clear hT hF hZ hS
        refine wpU_again (S' := (fun w' : World => w'.cell? ⟨f2, 2, none⟩ = some (.bool zb) ∧ w'.cell? ⟨f2, 1, none⟩ = some (.int .i64 (zo : Nat)))) (k' := 22) _ _ _ _ (by kernel_rfl) ?_
        have hS : (fun w' : World => w'.cell? ⟨f2, 2, none⟩ = some (.bool zb) ∧ w'.cell? ⟨f2, 1, none⟩ = some (.int .i64 (zo : Nat))) w4 := HRZ.out _ _ _ _ _ HT.out.1
        refine wpU_pureH (i := 8) (j := 44) (v := ?_) rfl rfl (by kernel_rfl) (by kernel_rfl) (by kernel_rfl) (by decide) (fun _ _ _ h => h) (fun _ => hS) (Or.inl ⟨by kernel_rfl, fun _ _ => ?_⟩) ?_
        rotate_left
        · go_simp
          try with_reducible rfl
        refine wpU_pureH (i := 9) (j := 45) (v := ?_) rfl rfl (by kernel_rfl) (by kernel_rfl) (by kernel_rfl) (by decide) (fun _ _ _ h => h) (fun _ => hS) (Or.inl ⟨by kernel_rfl, fun _ _ => ?_⟩) ?_
        rotate_left
        · go_simp
          try with_reducible rfl
        refine wpU_pureH (i := 10) (j := 46) (v := ?_) rfl rfl (by kernel_rfl) (by kernel_rfl) (by kernel_rfl) (by decide) (fun _ _ _ h => h) (fun _ => hS) (Or.inl ⟨by kernel_rfl, fun _ _ => ?_⟩) ?_
        rotate_left
        · go_simp
          try with_reducible rfl
        refine wpU_pureH (i := 11) (j := 47) (v := ?_) rfl rfl (by kernel_rfl) (by kernel_rfl) (by kernel_rfl) (by decide) (fun _ _ _ h => h) (fun _ => hS) (Or.inl ⟨by kernel_rfl, fun _ _ => ?_⟩) ?_
        rotate_left
        · go_simp
          try with_reducible rfl
        refine wpU_all [12] (by kernel_rfl) (by simp) ?_
        refine ReadyU.cons rfl (fun K hK => ?_) ReadyU.nil
        go_simp
        refine (HSAME.out _ _ _ HT.out.1 HT.out.2.1).mono ?_; rintro e w5 ⟨rfl, hT5⟩
        have H5 := Lib.hid hT5
        clear hT5 hS
        have hS : (fun w' : World => w'.cell? ⟨f2, 2, none⟩ = some (.bool zb) ∧ w'.cell? ⟨f2, 1, none⟩ = some (.int .i64 (zo : Nat))) w5 := HRZ.out _ _ _ _ _ H5.out
        refine hK.out _ _ (fun _ => hS) ?_
        clear hK K
        refine wpU_pureH (i := 13) (j := 49) (v := ?_) rfl rfl (by kernel_rfl) (by kernel_rfl) (by kernel_rfl) (by decide) (fun _ _ _ h => h) (fun _ => hS) (Or.inl ⟨by kernel_rfl, fun _ _ => ?_⟩) ?_
        rotate_left
        · go_simp
          try with_reducible rfl
        refine wpU_pureH (i := 14) (j := 50) (v := ?_) rfl rfl (by kernel_rfl) (by kernel_rfl) (by kernel_rfl) (by decide) (fun _ _ _ h => h) (fun _ => hS) (Or.inl ⟨by kernel_rfl, fun _ _ => ?_⟩) ?_
        rotate_left
        · go_simp
          try with_reducible rfl
        refine wpU_pureH (i := 15) (j := 51) (v := ?_) rfl rfl (by kernel_rfl) (by kernel_rfl) (by kernel_rfl) (by decide) (fun _ _ _ h => h) (fun _ => hS) (Or.inl ⟨by kernel_rfl, fun _ _ => ?_⟩) ?_
        rotate_left
        · go_simp
          try with_reducible rfl
        refine wpU_pureH (i := 16) (j := 52) (v := ?_) rfl rfl (by kernel_rfl) (by kernel_rfl) (by kernel_rfl) (by decide) (fun _ _ _ h => h) (fun _ => hS) (Or.inl ⟨by kernel_rfl, fun _ _ => ?_⟩) ?_
        rotate_left
        · go_simp
          try with_reducible rfl
        refine wpU_pureH (i := 18) (j := 54) (v := ?_) rfl rfl (by kernel_rfl) (by kernel_rfl) (by kernel_rfl) (by decide) (fun _ _ _ h => h) (fun _ => hS) (Or.inl ⟨by kernel_rfl, fun _ _ => ?_⟩) ?_
        rotate_left
        · go_simp
          try with_reducible rfl
        refine wpU_pureH (i := 19) (j := 55) (v := ?_) rfl rfl (by kernel_rfl) (by kernel_rfl) (by kernel_rfl) (by decide) (fun _ _ _ h => h) (fun _ => hS) (Or.inl ⟨by kernel_rfl, fun _ _ => ?_⟩) ?_
        rotate_left
        · go_simp
          try with_reducible rfl
        refine wpU_pureH (i := 20) (j := 56) (v := ?_) rfl rfl (by kernel_rfl) (by kernel_rfl) (by kernel_rfl) (by decide) (fun _ _ _ h => h) (fun _ => hS) (Or.inl ⟨by kernel_rfl, fun _ _ => ?_⟩) ?_
        rotate_left
        · go_simp
          try with_reducible rfl
        refine wpU_loadH (i := 21) (j := 57) (v := ?_) rfl rfl (by kernel_rfl) (by kernel_rfl) (by kernel_rfl) (by decide) (by kernel_rfl) (by kernel_rfl) (fun _ _ _ h => h) hS (Or.inl ⟨by kernel_rfl, fun wl hl => ?_⟩) ?_
        rotate_left
        · obtain ⟨l0, l1⟩ := hl
          go_simp
          try with_reducible rfl
        refine wpU_all [17] (by kernel_rfl) (by simp) ?_
        refine ReadyU.cons rfl (fun K hK => ?_) ReadyU.nil
        go_simp
        refine (blown_any f1 _ _ H5.out.fz).mono ?_; rintro e w6 ⟨rfl, rfl⟩
        refine hK.out _ _ (fun _ => hS) ?_
        clear hK K
        refine wpU_all [22] (by kernel_rfl) (by simp) ?_
        refine ReadyU.cons rfl (fun K hK => ?_) ReadyU.nil
        go_simp
        refine hK.out _ _ (fun h => Bool.noConfusion (show true = false from h)) ?_
        clear hK K
        refine wpU_again (S' := (fun w' : World => w'.cell? ⟨f2, 2, none⟩ = some (.bool zb) ∧ w'.cell? ⟨f2, 1, none⟩ = some (.int .i64 (zo : Nat)))) (k' := 31) _ _ _ _ (by kernel_rfl) ?_
        refine wpU_pureH (i := 23) (j := 59) (v := ?_) rfl rfl (by kernel_rfl) (by kernel_rfl) (by kernel_rfl) (by decide) (fun _ _ _ h => h) (fun _ => hS) (Or.inl ⟨by kernel_rfl, fun _ _ => ?_⟩) ?_
        rotate_left
        · go_simp
          try with_reducible rfl
        refine wpU_pureH (i := 24) (j := 60) (v := ?_) rfl rfl (by kernel_rfl) (by kernel_rfl) (by kernel_rfl) (by decide) (fun _ _ _ h => h) (fun _ => hS) (Or.inl ⟨by kernel_rfl, fun _ _ => ?_⟩) ?_
        rotate_left
        · go_simp
          try with_reducible rfl
        refine wpU_pureH (i := 25) (j := 61) (v := ?_) rfl rfl (by kernel_rfl) (by kernel_rfl) (by kernel_rfl) (by decide) (fun _ _ _ h => h) (fun _ => hS) (Or.inl ⟨by kernel_rfl, fun _ _ => ?_⟩) ?_
        rotate_left
        · go_simp
          try with_reducible rfl
        refine wpU_pureH (i := 27) (j := 63) (v := ?_) rfl rfl (by kernel_rfl) (by kernel_rfl) (by kernel_rfl) (by decide) (fun _ _ _ h => h) (fun _ => hS) (Or.inl ⟨by kernel_rfl, fun _ _ => ?_⟩) ?_
        rotate_left
        · go_simp
          try with_reducible rfl
        refine wpU_pureH (i := 28) (j := 64) (v := ?_) rfl rfl (by kernel_rfl) (by kernel_rfl) (by kernel_rfl) (by decide) (fun _ _ _ h => h) (fun _ => hS) (Or.inl ⟨by kernel_rfl, fun _ _ => ?_⟩) ?_
        rotate_left
        · go_simp
          try with_reducible rfl
        refine wpU_pureH (i := 29) (j := 65) (v := ?_) rfl rfl (by kernel_rfl) (by kernel_rfl) (by kernel_rfl) (by decide) (fun _ _ _ h => h) (fun _ => hS) (Or.inl ⟨by kernel_rfl, fun _ _ => ?_⟩) ?_
        rotate_left
        · go_simp
          try with_reducible rfl
        refine wpU_loadH (i := 30) (j := 66) (v := ?_) rfl rfl (by kernel_rfl) (by kernel_rfl) (by kernel_rfl) (by decide) (by kernel_rfl) (by kernel_rfl) (fun _ _ _ h => h) hS (Or.inl ⟨by kernel_rfl, fun wl hl => ?_⟩) ?_
        rotate_left
        · obtain ⟨l0, l1⟩ := hl
          go_simp
          try with_reducible rfl
        refine wpU_all [26] (by kernel_rfl) (by simp) ?_
        refine ReadyU.cons rfl (fun K hK => ?_) ReadyU.nil
        go_simp
        refine (ops_any f1 _ _ H5.out.fz).mono ?_; rintro e w6 ⟨rfl, rfl⟩
        refine hK.out _ _ (fun _ => hS) ?_
        clear hK K
        refine wpU_all [31] (by kernel_rfl) (by simp) ?_
        refine ReadyU.cons rfl (fun K hK => ?_) ReadyU.nil
        go_simp
        refine hK.out _ _ (fun h => Bool.noConfusion (show true = false from h)) ?_
        clear hK K
        refine wpU_pureH (i := 32) (j := 68) (v := ?_) rfl rfl (by kernel_rfl) (by kernel_rfl) (by kernel_rfl) (by decide) (fun _ _ _ h => h) (fun _ => hS) (Or.inl ⟨by kernel_rfl, fun _ _ => ?_⟩) ?_
        rotate_left
        · go_simp
          try with_reducible rfl
        refine wpU_done (by kernel_rfl) ?_ _
        exact cut_end ⟨_, _, H5.out, HT.out.2.1, HT.out.2.2⟩ (by kernel_rfl)
      · rintro us w8 ⟨z', d', h1, h2, h3⟩
        have HN := Lib.hid (And.intro h1 (And.intro h2 h3))
        clear h1 h2 h3 hS c0 c1 c2 c3 c4
        simp only [setAll, List.foldl_cons, List.foldl_nil, List.set_cons_zero, List.set_cons_succ]
        go_wp2_with fail
        exact ⟨⟨i + 1, z', d', by omega, by go_num, HN⟩, by simp [intOf]; omega⟩
    · obtain rfl : i = l.length := by omega
      clear hlt
      go_wp2_with fail
      go_ret
      exact ⟨rfl, HI.out.1.toExt⟩
end Go.Proofs.Ytnphkddhckcpmaa
