/-
  The statement GfLinear by its walk.
-/
import Derived.Test.YtflockpdojjgeaaGfL
import Derived.Test.YtflockpdojjgeaaStr
import Derived.Deep.QuietTactic
import Derived.BigQuiet
namespace Go.Proofs.Ytflockpdojjgeaa
open Go.RowKit Gf
set_option maxRecDepth 100000
set_option maxHeartbeats 4000000
attribute [local go_sem] min_int2 max_int2

theorem g8_xor (y a b : UInt8) : g8 y (a ^^^ b) = g8 y a ^^^ g8 y b := by
  apply UInt8.toNat_inj.1
  rw [UInt8.toNat_xor, g8_toNat, g8_toNat, g8_toNat, UInt8.toNat_xor, gmul_xor]
theorem g8_assoc (y a b : UInt8) : g8 (g8 y a) b = g8 y (g8 a b) := by
  apply UInt8.toNat_inj.1
  rw [g8_toNat, g8_toNat, g8_toNat, g8_toNat, gmul_assoc _ _ _ (u8lt y) (u8lt a) (u8lt b)]
theorem mad_sum : ∀ (d s : List UInt8) (a b : UInt8), mad (mad d s a) s b = mad d s (a ^^^ b)
  | [], _, _, _ => rfl
  | _ :: _, [], _, _ => rfl
  | x :: d, y :: s, a, b => by
    simp only [mad, mad_sum d s a b, List.cons.injEq, and_true]
    rw [g8_xor, UInt8.xor_assoc]
theorem mad_prod : ∀ (s : List UInt8) (a b : UInt8), mad (List.replicate s.length 0) (mad (List.replicate s.length 0) s a) b = mad (List.replicate s.length 0) s (g8 a b)
  | [], _, _ => rfl
  | y :: s, a, b => by
    simp only [List.length_cons, List.replicate_succ, mad, mad_prod s a b, List.cons.injEq, and_true]
    rw [UInt8.zero_xor, UInt8.zero_xor, UInt8.zero_xor, g8_assoc]

theorem add8 (x y : UInt8) (w : World) : Calls Try.prog 30 #[bv x, bv y] w fun e w' => e = .returned (bv (x ^^^ y)) ∧ w = w' :=
  (add_any x.toNat y.toNat (u8lt x) (u8lt y) w).mono fun _ _ ⟨h, k⟩ => ⟨by rw [h, ← UInt8.toNat_xor], k⟩
theorem tmul8 (b : Nat) (x y : UInt8) (w : World) (h : TableAt w b) : Calls Try.prog 31 #[.pointer (some ⟨b, 0, none⟩), bv x, bv y] w fun e w' => e = .returned (bv (g8 x y)) ∧ w = w' :=
  (tmul_any b x.toNat y.toNat (u8lt x) (u8lt y) w h).mono fun _ _ ⟨h, k⟩ => ⟨by rw [h, ← g8_toNat], k⟩
theorem conv_later' {w : World} {v : Value} {l : List UInt8} (h : Bytes w v l) : ∀ W, Ext w W → (convert 22 9 v).run Try.prog W = .ok (.string (bstr l)) W :=
  fun _ hx => run_tostr Try.underlying22 Try.underlying5 Try.underlying9 (h.ext hx)

theorem gfLinear_walk (w : World) (dv : Value) (d : List UInt8) (hd : Bytes w dv d) (hdl : d.length ≤ maxLen) (sv : Value) (s : List UInt8) (hs : Bytes w sv s) (hsl : s.length ≤ maxLen) (c0 c1 : UInt8) :
    Calls Try.prog 10 #[dv, sv, .agg #[bv c0, bv c1]] w fun e w' => e = .returned (.bool true) ∧ Below w.heap.size w w' := by
  have HD := Lib.hid hd
  have HS := Lib.hid hs
  obtain ⟨da, dc, rfl, -, -, -⟩ := hd
  obtain ⟨sa, sc, rfl, -, -, -⟩ := hs
  rw [bvs_len] at HD ⊢
  rw [bvs_len] at HS ⊢
  unfold maxLen at hdl hsl
  by_cases h1 : d.length ≤ 1000
  · by_cases h2 : s.length ≤ 1000
    · go_enter Try.func10, Try.ntmps10
      go_wp2_with fail
      have R0 := Row.new w 34 #[bv c0, bv c1]
      have e0 : Ext w (w.alloc (.cells #[bv c0, bv c1] 34)) := (Ext.refl w).alloc (Nat.le_refl _) _
      refine (gfawake_any _).mono ?_; rintro e w1 ⟨rfl, hx1⟩
      have R1 := R0.ext hx1
      have e1 := e0.trans hx1
      clear R0 e0 hx1
      go_wp2_with fail
      refine (new_any _).mono ?_; rintro e w2 ⟨t, ht, rfl, hT, hx⟩
      have hx2 := e1.trans hx
      have hh := Lib.hid hT
      have R2 := R1.ext hx
      have p0 := R2.cell (i := 0) rfl
      have p1 := R2.cell (i := 1) rfl
      have HD2 := Lib.hid (HD.out.ext hx2)
      have HS2 := Lib.hid (HS.out.ext hx2)
      have z0 : Ext w2 w2.drew := (Ext.refl _).drew
      clear hT R1 e1 hx ht
      go_wp2_with fail
      go_region_with (first | (go_at_call_of 28 (v1); refine (muladd_any t (mad d s c0) s c1 _ _ _ (by exact hh.out.ext z1) (by rw [mad_length]; omega) (by omega) (by exact H1.out) (by exact HS2.out.ext z1)).mono ?_; rintro e w5 ⟨v2, rfl, hO2, hx5⟩; have z2 := z1.trans hx5; have H2 := Lib.hid hO2.cells) | (go_at_call 28; refine (muladd_any t d s c0 _ _ _ (by exact hh.out.ext z0) (by omega) (by omega) (by exact HD2.out.ext z0) (by exact HS2.out.ext z0)).mono ?_; rintro e w4 ⟨v1, rfl, hO1, hx4⟩; have z1 := z0.trans hx4; have q1 := z1.cell p1; have H1 := Lib.hid hO1.cells))
      all_goals
        rw [mad_sum] at H2
        clear hO1 hO2 H1 hx4 hx5
        have hmk : ∀ w, (Instr.makeSlice 22 (.int .i64 (s.length : Nat)) (.int .i64 (s.length : Nat))).run Try.prog w = .ok (.slice (some ⟨w.heap.size, 0, none⟩) s.length s.length) (w.alloc (.cells (Array.replicate s.length (.int .u8 0)) 5)) :=
          make_row (P := Try.prog) 22 5 (.int .u8 0) 1 s.length Try.underlying22 info_u8 rfl (by omega) (by omega)
        have q0 := z2.cell p0
        have q1' := z2.cell p1
        go_wp2_with fail
        refine (add8 c0 c1 _).mono ?_; rintro e w' ⟨rfl, rfl⟩
        go_wp2_with fail
        refine (muladd_any t d s (c0 ^^^ c1) _ _ _ (by exact hh.out.ext z2) (by omega) (by omega) (by exact HD2.out.ext z2) (by exact HS2.out.ext z2)).mono ?_; rintro e w6 ⟨v3, rfl, hO3, hx6⟩
        have z3 := z2.trans hx6
        have H3 := Lib.hid hO3.cells
        have H2' := Lib.hid (H2.out.ext hx6)
        clear hO3 hx6 q0 q1' q1 H2
        go_wp2_with fail
        have z4 : Ext w2 (w6.alloc (.cells (Array.replicate s.length (.int .u8 0)) 5)) := z3.trans ((Ext.refl w6).alloc (Nat.le_refl _) _)
        have H2 := Lib.hid (H2'.out.ext ((Ext.refl w6).alloc (Nat.le_refl _) (.cells (Array.replicate s.length (.int .u8 0)) 5)))
        have H3' := Lib.hid (H3.out.ext ((Ext.refl w6).alloc (Nat.le_refl _) (.cells (Array.replicate s.length (.int .u8 0)) 5)))
        have HZ : Hid (Bytes (w6.alloc (.cells (Array.replicate s.length (.int .u8 0)) 5)) (.slice (some ⟨w6.heap.size, 0, none⟩) s.length s.length) (List.replicate s.length 0)) := by
          have := (Own.new w6 0 5 (Array.replicate s.length (.int .u8 0)) (Nat.zero_le _) (by simp [maxLen]; omega)).cells
          have e : bvs (List.replicate s.length 0) = List.replicate s.length (Value.int .u8 0) := by
            show (List.replicate s.length (0 : UInt8)).map bv = _
            rw [List.map_replicate]; rfl
          refine Lib.hid ?_
          show Cells _ _ (bvs (List.replicate s.length 0))
          rw [e]
          simpa using this
        generalize hw7 : w6.alloc (.cells (Array.replicate s.length (.int .u8 0)) 5) = w7 at z4 H2 H3' HZ ⊢
        generalize hzb : w6.heap.size = zb at HZ ⊢
        clear hw7 hzb H3 H2' hmk
        have p0 := z4.cell p0
        have p1 := z4.cell p1
        have y0 : Ext w7 w7.drew := (Ext.refl _).drew
        go_region_with (first | (go_at_call_of 28 (v4); refine (muladd_any t (List.replicate s.length 0) (mad (List.replicate s.length 0) s c0) c1 _ _ _ (by exact hh.out.ext (z4.trans y1)) (by simp; omega) (by rw [mad_length]; simp; omega) (by exact HZ.out.ext y1) (by exact H4.out)).mono ?_; rintro e w9 ⟨v5, rfl, hO5, hx9⟩; have y2 := y1.trans hx9; have H5 := Lib.hid hO5.cells) | (go_at_call 28; refine (muladd_any t (List.replicate s.length 0) s c0 _ _ _ (by exact hh.out.ext (z4.trans y0)) (by simp; omega) (by omega) (by exact HZ.out.ext y0) (by exact HS2.out.ext (z4.trans y0))).mono ?_; rintro e w8 ⟨v4, rfl, hO4, hx8⟩; have y1 := y0.trans hx8; have q1 := y1.cell p1; have H4 := Lib.hid hO4.cells))
        all_goals
          rw [mad_prod] at H5
          clear hO4 hO5 H4 hx8 hx9
          have q0 := y2.cell p0
          have q1' := y2.cell p1
          go_wp2_with fail
          refine (tmul8 t c0 c1 _ (by exact hh.out.ext (z4.trans y2))).mono ?_; rintro e w' ⟨rfl, rfl⟩
          go_wp2_with fail
          refine (muladd_any t (List.replicate s.length 0) s (g8 c0 c1) _ _ _ (by exact hh.out.ext (z4.trans y2)) (by simp; omega) (by omega) (by exact HZ.out.ext y2) (by exact HS2.out.ext (z4.trans y2))).mono ?_; rintro e w10 ⟨v6, rfl, hO6, hx10⟩
          have m1 := conv_later' (H2.out.ext (y2.trans hx10)) w10 (Ext.refl _)
          have m2 := conv_later' (H3'.out.ext (y2.trans hx10)) w10 (Ext.refl _)
          have m3 := conv_later' (H5.out.ext hx10) w10 (Ext.refl _)
          have m4 := conv_later' hO6.cells w10 (Ext.refl _)
          clear hO6
          go_wp2
          go_ret
          exact ⟨rfl, (hx2.trans z4).trans (y2.trans hx10)⟩
    · go_enter Try.func10, Try.ntmps10
      go_wp2_with fail
      refine (gfawake_any _).mono ?_; rintro e w1 ⟨rfl, hx1⟩
      go_wp2
      go_ret
      exact ⟨rfl, Ext.trans ((Ext.refl w).alloc (Nat.le_refl _) _) hx1⟩
  · go_enter Try.func10, Try.ntmps10
    go_wp2_with fail
    refine (gfawake_any _).mono ?_; rintro e w1 ⟨rfl, hx1⟩
    go_wp2
    go_ret
    exact ⟨rfl, Ext.trans ((Ext.refl w).alloc (Nat.le_refl _) _) hx1⟩
end Go.Proofs.Ytflockpdojjgeaa
