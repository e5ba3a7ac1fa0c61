/-
  ArrayKnown.
-/
import Derived.Test.YthkbbcdnmdjhdaaArH
import Derived.Stop.Asserts
/-! XArJ: ArrayKnown. -/
namespace Go.Proofs.Ythkbbcdnmdjhdaa
open Go.RowKit Dk
set_option maxRecDepth 100000
set_option maxHeartbeats 4000000
attribute [local go_sem] min_int2 max_int2 bstr_toList

/-- array.New of a row in which a disk is nil. -/
theorem anew_nil (K M B : Nat) (h : ShOk K M B) (v : Value) (cs : List Value) (hl : cs.length = K + M) (hc : ∀ (i : Nat) (x : Value), cs[i]? = some x → x = .nilIface ∨ ∃ s, x = dval s) (hn : Value.nilIface ∈ cs) (w : World) (hv : Cells w v cs) :
    Calls Try.prog 13 #[.agg #[.int .i64 K, .int .i64 M, .int .i64 B], v] w fun e w' => e = .returned (.tuple #[.pointer none, .int .i64 1]) ∧ Ext w w' := by
  obtain ⟨va, vc, rfl, -, -, -⟩ := id hv
  obtain ⟨n, hnn⟩ : ∃ n, cs.length = n := ⟨_, rfl⟩
  have hi : (K : Int) + (M : Int) = (n : Int) := by omega
  rw [hnn] at hv hl ⊢
  obtain ⟨k1, m1, n2, b1, b2⟩ := h
  have HN := Lib.hid (And.intro hnn (And.intro hc hn))
  have HV := Lib.hid hv
  have HS := Lib.hid hl
  have hx1 : Ext w (w.alloc (.cells #[.int .i64 K, .int .i64 M, .int .i64 B] 23)) := (Ext.refl w).alloc (Nat.le_refl _) _
  have hr := Row.new w 23 #[.int .i64 K, .int .i64 M, .int .i64 B]
  obtain ⟨bb, hbb⟩ : ∃ bb, w.heap.size = bb := ⟨_, rfl⟩
  clear hv hnn hl hc hn
  go_enter Try.func13, Try.ntmps13
  go_wp2_with fail
  rw [hbb] at hr
  generalize w.alloc (.cells #[.int .i64 K, .int .i64 M, .int .i64 B] 23) = w1 at hr hx1 ⊢
  refine (rsnew_any K M k1 m1 n2 _).mono ?_; rintro e w2 ⟨cb, X, hX, rfl, -, x2⟩
  have HX2 := Lib.hid (Ext.trans hx1 x2)
  have HR := Lib.hid (hr.ext x2)
  have d0 := HR.out.cell (i := 0) (v := .int .i64 K) rfl
  have d1 := HR.out.cell (i := 1) (v := .int .i64 M) rfl
  have d2 := HR.out.cell (i := 2) (v := .int .i64 B) rfl
  clear hX x2 hx1 hr hbb
  have q1 : ((n : Int) != (n : Int)) = false := by simp
  have q2 : 16 ≤ (B : Int) := by omega
  have q3 : (B : Int) ≤ 4096 := by omega
  go_wp2_with fail
  have qn : ∀ (x : Value) (w : World), (binOp .eql 47 (.iface 41 x) .nilIface).run Try.prog w = .ok (.bool false) w := fun x w => by kernel_rfl
  have qm : ∀ (w : World), (binOp .eql 47 .nilIface .nilIface).run Try.prog w = .ok (.bool true) w := fun w => by kernel_rfl
  go_loop [42] (fun v42 => ∃ i : Nat, i ≤ n ∧ v42 = .int .i64 (i : Nat) ∧ Hid (∀ j, j < i → cs[j]? ≠ some .nilIface)) (fun v42 => (n - intOf v42).toNat)
  case atStart => exact ⟨0, by omega, rfl, Lib.hid fun j hj => by omega⟩
  case round =>
    obtain ⟨i, hin, rfl, HJ⟩ := hrel
    by_cases hlt : i < n
    · have hlt' : (i : Int) < (n : Int) := by omega
      obtain ⟨x, hx⟩ : ∃ x, cs[i]? = some x := ⟨_, List.getElem?_eq_getElem (by rw [HN.out.1]; exact hlt)⟩
      obtain ⟨b0, o0, rfl, c5⟩ := (HV.out.ext HX2.out).at hx
      rcases HN.out.2.1 i x hx with rfl | ⟨s, rfl⟩
      · clear hx
        go_wp2_with fail
        go_ret2
        exact ⟨rfl, HX2.out⟩
      · unfold dval at c5
        have HJ2 := Lib.hid (show ∀ j, j < i + 1 → cs[j]? ≠ some .nilIface from fun j hj => by
          by_cases e : j = i
          · subst e; rw [hx]; unfold dval; simp
          · exact HJ.out j (by omega))
        clear hx
        go_wp2_with fail
        exact ⟨⟨i + 1, by omega, by go_num, HJ2⟩, by simp [intOf]; omega⟩
    · exfalso
      obtain ⟨j, hj⟩ := List.getElem?_of_mem HN.out.2.2
      have hj2 := (List.getElem?_eq_some_iff.1 hj).1
      exact HJ.out j (by have := HN.out.1; omega) hj

theorem aroom_any (s : Nat) (fp : Option Nat) (d : DS) (w0 w : World) (Z : Thing) (hL : Lab w0 w Z) (hS : Lab w0 w (simT s fp d)) (ht : tot d.fs ≤ 1099511627776) (n : Int) (hn : (d.most : Int) - tot d.fs = n) :
    Calls Try.prog 15 #[.iface 41 (.pointer (some ⟨s, 0, none⟩))] w fun e w' => e = .returned (.tuple #[.int .i64 n, .bool true]) ∧ Lab w0 w' Z := by
  subst hn
  have HL := Lib.hid hL
  have HS := Lib.hid hS
  have ta := fun (v : Value) (xT : TypeId) (w : World) => run_typeAssert_hasB (P := Try.prog) (t := 41) (asserted := 92) Try.underlying92 (by kernel_rfl) v xT w
  have iv : ∀ (x : Value) (w : World), (invoke (.fn (.method "Room") #[]) #[.iface 41 x]).run Try.prog w = .ok (.enter 107 #[x]) w := fun x w => by kernel_rfl
  have HT := Lib.hid ht
  clear hL hS ht
  go_enter Try.func15, Try.ntmps15
  go_wp2_with fail
  refine (Lab.room HL.out HS.out HT.out).mono ?_; rintro e w1 ⟨rfl, hL1⟩
  go_wp2_with fail
  go_ret2
  exact ⟨rfl, hL1⟩
theorem aroom_nil (w : World) :
    Calls Try.prog 15 #[.nilIface] w fun e w' => e = .returned (.tuple #[.int .i64 0, .bool false]) ∧ w = w' := by
  have ta : ∀ W : World, (Instr.typeAssert .nilIface 47 92 true).run Try.prog W = .ok (.tuple #[.nilIface, .bool false]) W := fun W => by kernel_rfl
  go_enter Try.func15, Try.ntmps15
  go_wp2_with fail
  go_ret2
  exact ⟨rfl, rfl⟩

theorem anew_nil2 (s : Nat) (w : World) :
    Calls Try.prog 13 #[.agg #[.int .i64 1, .int .i64 1, .int .i64 16], .slice (some ⟨w.heap.size, 0, none⟩) 2 2] (w.alloc (.cells #[.iface 41 (.pointer (some ⟨s, 0, none⟩)), .nilIface] 47)) fun e w' => e = .returned (.tuple #[.pointer none, .int .i64 1]) ∧ Ext w w' := by
  have hc := cells_block (w := w.alloc (.cells #[.iface 41 (.pointer (some ⟨s, 0, none⟩)), .nilIface] 47)) (g := w.heap.size) (n := 2) (C := #[.iface 41 (.pointer (some ⟨s, 0, none⟩)), .nilIface]) (e := 47) (fz := (0, 0)) (cs := [dval s, .nilIface]) (by show (w.heap.push _)[w.heap.size]? = _; rw [Array.getElem?_push, if_pos rfl]) rfl rfl
  refine (anew_nil 1 1 16 ⟨by decide, by decide, by decide, by decide, by decide⟩ _ [dval s, .nilIface] rfl (fun i x h => ?_) (by simp) _ hc).mono ?_
  · rcases i with _ | _ | i
    · cases h; exact .inr ⟨_, rfl⟩
    · cases h; exact .inl rfl
    · cases h
  · rintro e w' ⟨h1, h2⟩
    exact ⟨h1, Ext.trans ((Ext.refl _).alloc (Nat.le_refl _) _) h2⟩
theorem anew_bad2 (B : Int) (n : Nat) (h : ¬ (16 ≤ B ∧ B ≤ 4096 ∧ n = 1 + 1)) (X : Obj) (w : World) :
    Calls Try.prog 13 #[.agg #[.int .i64 1, .int .i64 1, .int .i64 B], .slice (some ⟨w.heap.size, 0, none⟩) n n] (w.alloc X) fun e w' => e = .returned (.tuple #[.pointer none, .int .i64 1]) ∧ Ext w w' :=
  (anew_bad 1 1 B (by decide) (by decide) (by decide) _ _ _ h _).mono fun _ _ ⟨h1, h2⟩ => ⟨h1, Ext.trans ((Ext.refl _).alloc (Nat.le_refl _) _) h2⟩
theorem known_law (w : World) : Calls Try.prog 4 #[] w fun e w' => e = .returned (.bool true) ∧ Ext w w' := by
  have N5 : Hid (∀ W, Ext w W → Calls Try.prog 14 #[.int .i64 5, .pointer none] W fun e w' => ∃ s, e = .returned (.pointer (some ⟨s, 0, none⟩)) ∧ Ext W w') := Lib.hid fun W x => by
    refine (dnew_any 5 none W (by rintro b h; cases h)).mono ?_
    rintro e w' ⟨h1, -, h3⟩
    exact ⟨_, h1, h3⟩
  go_enter Try.func4, Try.ntmps4
  go_wp2_with fail
  refine (aawake_any _).mono ?_; rintro e w1 ⟨rfl, x1⟩
  have hL1 := ((Lab.start w).ext x1).newrow 23 #[.int .i64 1, .int .i64 1, .int .i64 16]
  obtain ⟨bb, hbb⟩ : ∃ bb, w1.heap.size = bb := ⟨_, rfl⟩
  rw [hbb] at hL1
  have X0 := hL1.toExt
  go_wp2_with fail
  generalize w1.alloc (.cells #[.int .i64 1, .int .i64 1, .int .i64 16] 23) = w2 at hL1 X0 ⊢
  have rr := rowT.row hL1.drew.left
  have S0 : (fun w' : World => w'.cell? ⟨bb, 0, none⟩ = some (.int .i64 1) ∧ w'.cell? ⟨bb, 1, none⟩ = some (.int .i64 1) ∧ w'.cell? ⟨bb, 2, none⟩ = some (.int .i64 16)) w2.drew := ⟨rr.cell (i := 0) rfl, rr.cell (i := 1) rfl, rr.cell (i := 2) rfl⟩
  have X1 := hL1.drew.toExt
  clear rr
  go_region_held_law (fun w' : World => w'.cell? ⟨bb, 0, none⟩ = some (.int .i64 1) ∧ w'.cell? ⟨bb, 1, none⟩ = some (.int .i64 1) ∧ w'.cell? ⟨bb, 2, none⟩ = some (.int .i64 16)) (first | assumption | go_keep | exact ⟨HX5.out.cell S0.1, HX5.out.cell S0.2.1, HX5.out.cell S0.2.2⟩ | exact ⟨HX4.out.cell S0.1, HX4.out.cell S0.2.1, HX4.out.cell S0.2.2⟩) (first
    | (go_at_call 14; refine (N5.out _ X1).mono ?_; rintro e w4 ⟨s1, rfl, x4⟩; have HX4 := Lib.hid x4)
    | (go_at_call 13; refine (anew_bad2 16 1 (by decide) _ _).mono ?_; rintro e w5 ⟨rfl, x5⟩; have HX5 := Lib.hid (Ext.trans HX4.out x5)))
  have hL6 := hL1.drew.ext HX5.out
  clear x5 HX5 HX4 x4 S0 X0 X1 hL1
  have rr := rowT.row hL6.drew.left
  have S0 : (fun w' : World => w'.cell? ⟨bb, 0, none⟩ = some (.int .i64 1) ∧ w'.cell? ⟨bb, 1, none⟩ = some (.int .i64 1) ∧ w'.cell? ⟨bb, 2, none⟩ = some (.int .i64 16)) w5.drew := ⟨rr.cell (i := 0) rfl, rr.cell (i := 1) rfl, rr.cell (i := 2) rfl⟩
  have X1 := hL6.drew.toExt
  clear rr
  go_wp2_with fail
  go_region_held_law (fun w' : World => w'.cell? ⟨bb, 0, none⟩ = some (.int .i64 1) ∧ w'.cell? ⟨bb, 1, none⟩ = some (.int .i64 1) ∧ w'.cell? ⟨bb, 2, none⟩ = some (.int .i64 16)) (first | assumption | go_keep | exact ⟨HX7.out.cell S0.1, HX7.out.cell S0.2.1, HX7.out.cell S0.2.2⟩ | exact ⟨HX6.out.cell S0.1, HX6.out.cell S0.2.1, HX6.out.cell S0.2.2⟩) (first
    | (go_at_call 14; refine (N5.out _ X1).mono ?_; rintro e w6 ⟨s2, rfl, x6⟩; have HX6 := Lib.hid x6)
    | (go_at_call 13; refine (anew_nil2 s2 _).mono ?_; rintro e w7 ⟨rfl, x7⟩; have HX7 := Lib.hid (Ext.trans HX6.out x7)))
  have X7 := hL6.drew.toExt.trans HX7.out
  clear x7 HX7 HX6 x6 S0 X1 hL6
  go_wp2_with fail
  refine (N5.out _ X7).mono ?_; rintro e w8 ⟨s3, rfl, x8⟩
  replace X7 := X7.trans x8
  clear x8
  go_wp2_with fail
  refine (N5.out _ X7).mono ?_; rintro e w9 ⟨s4, rfl, x9⟩
  replace X7 := X7.trans x9
  clear x9
  go_wp2_with fail
  refine (anew_bad2 15 2 (by decide) _ _).mono ?_; rintro e w10 ⟨rfl, x10⟩
  replace X7 := X7.trans x10
  clear x10
  go_wp2_with fail
  refine (Lab.newdisk 7 (Lab.nofuse ((Lab.start w).ext X7))).mono ?_; rintro e w11 ⟨s5, rfl, hL⟩
  have L11 := Lib.hid hL
  clear hL X7
  go_wp2_with fail
  refine (aroom_any s5 none _ w _ _ L11.out L11.out.right.left (by decide) 7 (by decide)).mono ?_; rintro e w12 ⟨rfl, hL⟩
  have X12 := hL.toExt
  clear hL L11
  go_wp2_with fail
  refine (aroom_nil _).mono ?_; rintro e w13 ⟨rfl, rfl⟩
  go_wp2_with fail
  refine (make_any 4 2 16 100 ⟨by decide, by decide, by decide, by decide⟩ w _ emp ((Lab.start w).ext X12)).mono ?_
  rintro e w14 (⟨hn, -, -⟩ | ⟨P, K, M, B, hm, rfl, hL⟩)
  · exact absurd ⟨by decide, by decide, by decide, by decide, by decide, by decide⟩ hn
  obtain rfl : K = 4 := by have := hm.k; omega
  obtain rfl : M = 2 := by have := hm.m; omega
  obtain rfl : B = 16 := by have := hm.b; omega
  have HP := Lib.hid (And.intro (hm.okb (most := 100)) (And.intro hm.aK (And.intro hm.aM (And.intro hm.aB hm.an))))
  have L14 := Lib.hid hL
  clear hm hL X12
  go_wp2_with fail
  refine (make_any 1 3 16 100 ⟨by decide, by decide, by decide, by decide⟩ w _ _ L14.out).mono ?_
  rintro e w15 (⟨hn, -, -⟩ | ⟨Q, K, M, B, hm, rfl, hL⟩)
  · exact absurd ⟨by decide, by decide, by decide, by decide, by decide, by decide⟩ hn
  obtain rfl : K = 1 := by have := hm.k; omega
  obtain rfl : M = 3 := by have := hm.m; omega
  obtain rfl : B = 16 := by have := hm.b; omega
  have HQ := Lib.hid (And.intro (hm.okb (most := 100)) (And.intro hm.aK (And.intro hm.aM (And.intro hm.aB hm.an))))
  have L15 := Lib.hid hL
  have M15 := Lib.hid (show Lab w w15 (memP P (blanks 6 100) (blanks 6 100) emp) from hL.right.right.right.right.right.right.right.right)
  clear hm hL L14
  have p0 := (memP.cells M15.out).1
  have q0 := (memP.cells L15.out).1
  go_wp2_with fail
  refine (adisk_no P.A 6 (by rw [HP.out.2.2.2.2]; decide) w _ (memP.arr M15.out)).mono ?_; rintro e w16 ⟨rfl, rfl⟩
  go_wp2_with fail
  obtain ⟨sa, hsa⟩ : ∃ sa, P.A.ss[5]? = some sa := ⟨_, List.getElem?_eq_getElem (by rw [HP.out.2.2.2.2]; decide)⟩
  refine (adisk_any P.A 5 sa hsa w _ (memP.arr M15.out)).mono ?_; rintro e w16 ⟨rfl, rfl⟩
  go_wp2_with fail
  refine (aquorum_any P.A (blanks 6 100) HP.out.1 w _ (memP.arr M15.out)).mono ?_; rintro e w17 ⟨rfl, x17⟩
  rw [HP.out.2.1, HP.out.2.2.1, show quo 4 2 = 4 from rfl]
  have L17 := Lib.hid (L15.out.ext x17)
  have M17 := Lib.hid (M15.out.ext x17)
  replace p0 := (memP.cells M17.out).1
  replace q0 := (memP.cells L17.out).1
  clear x17
  go_wp2_with fail
  refine (aquorum_any Q.A (blanks 4 100) HQ.out.1 w _ (memP.arr L17.out)).mono ?_; rintro e w18 ⟨rfl, x18⟩
  rw [HQ.out.2.1, HQ.out.2.2.1, show quo 1 3 = 3 from rfl]
  have L18 := Lib.hid (L17.out.ext x18)
  have M18 := Lib.hid (M17.out.ext x18)
  replace p0 := (memP.cells M18.out).1
  replace q0 := (memP.cells L18.out).1
  clear x18
  go_wp2_with fail
  refine (asave_no P.A 6 _ _ w _ (memP.arr M18.out) (by rw [HP.out.2.2.2.2]; decide)).mono ?_; rintro e w19 ⟨rfl, rfl⟩
  go_wp2_with fail
  go_ret
  exact ⟨rfl, L18.out.toExt⟩
end Go.Proofs.Ythkbbcdnmdjhdaa
