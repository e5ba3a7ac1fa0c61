/-
  slices.Clone of disks; array.New; the reference's array in memory, NewArray.
-/
import Derived.Test.YthkbbcdnmdjhdaaGreatArC
import Derived.Test.YthkbbcdnmdjhdaaGreatRsP
import Derived.Lib.SliceRun
/-! XArD: slices.Clone of disks; array.New; the reference's array in memory, NewArray. -/
namespace Go.Proofs.YthkbbcdnmdjhdaaGreat
open Go.RowKit Dk
set_option maxRecDepth 100000
set_option maxHeartbeats 4000000
attribute [local go_sem] min_int2 max_int2 bstr_toList

theorem info_disk : (Tryz.prog.info? 156).map (fun i => (i.zero, i.size, i.bytes)) = some (some .nilIface, 1, 16) := by kernel_rfl
theorem nil_disks : ∀ (w : World) (a : Option Addr) (n c n' c' : Nat), (binOp .eql 129 (.slice a n c) (.slice none n' c')).run Tryz.prog w = .ok (.bool a.isNone) w := fun w a n c n' c' => Lib.run_eql_slice_nil w _ _ a n c n' c' Tryz.underlying129
theorem dvals_one (ss : List Nat) : ∀ u ∈ ss.map dval, u.oneCell' = true := fun u hu => by obtain ⟨s, -, rfl⟩ := List.mem_map.1 hu; rfl
theorem dclone_any (v : Value) (ss : List Nat) (h0 : 0 < ss.length) (hl : ss.length ≤ 255) (w : World) (hv : Cells w v (ss.map dval)) :
    Calls Tryz.prog 97 #[v] w fun e w' => ∃ g c, e = .returned (.slice (some ⟨g, 0, none⟩) ss.length c) ∧ Own w' w.heap.size 156 (.slice (some ⟨g, 0, none⟩) ss.length c) (ss.map dval) ∧ Ext w w' := by
  obtain ⟨a, c, rfl, hc, hz, -⟩ := id hv
  rw [List.length_map] at hv hc ⊢
  have q := nil_disks
  cases a with
  | none => have := hz rfl; omega
  | some ad =>
    have HB := Lib.hid hv
    clear hv hc hz
    have o0 : Own (w.alloc (.cells #[] 156)) w.heap.size 156 (.slice (some ⟨w.heap.size, 0, none⟩) 0 0) [] := Own.new w w.heap.size 156 #[] (Nat.le_refl _) (by decide)
    have y3 : Ext w (w.alloc (.cells #[] 156)) := (Ext.refl w).alloc (Nat.le_refl _) _
    have HL : Hid ((ss.map dval).length = ss.length) := Lib.hid (List.length_map _)
    go_enter Tryz.func97, Tryz.ntmps97
    go_wp2_with (at_builtin; refine list_of_wp rfl fun KK hKK => wp_appx _ _ 129 129 156 .nilIface 16 rfl Tryz.underlying129 info_disk rfl rfl o0 rfl (Cells.src Tryz.underlying129 (HB.out.ext y3) (dvals_one ss)) (by rw [HL.out]; simp [maxLen]; omega) (by rw [HL.out]; simp; omega) y3.size ss.length (by rw [HL.out]; simp) fun ad4 c4 w4 ha4 => hKK _ _ ?_)
    go_ret
    have hx4 : Ext w w4 := Below.grown y3 ha4.2.1 y3.size (fun k hk => by have hk' : some w.heap.size = some k := hk; injection hk' with hk'; omega)
    have ho := ha4.1
    rw [List.nil_append] at ho
    rcases ho.forms with ⟨e1, e2⟩ | ⟨g, cap, cur, e1, -⟩
    · rw [List.map_eq_nil_iff] at e2
      rw [e2] at h0; cases h0
    · rw [HL.out] at e1
      rw [e1] at ho ⊢
      exact ⟨g, cap, rfl, ho, hx4⟩
/-- A shape that may be. -/
structure ShOk (K M B : Nat) : Prop where
  k1 : 1 ≤ K
  m1 : 1 ≤ M
  n : K + M ≤ 255
  b1 : 16 ≤ B
  b2 : B ≤ 4096
theorem anew_any (K M B : Nat) (h : ShOk K M B) (v : Value) (ss : List Nat) (hl : ss.length = K + M) (w0 w : World) (Y : Thing) (hL : Lab w0 w Y) (hv : Cells w v (ss.map dval)) :
    Calls Tryz.prog 69 #[.agg #[.int .i64 K, .int .i64 M, .int .i64 B], v] w fun e w' => ∃ a : AA, (a.K = K ∧ a.M = M ∧ a.B = B ∧ a.ss = ss) ∧ e = .returned (.tuple #[.pointer (some ⟨a.ab, 0, none⟩), .int .i64 0]) ∧ Lab w0 w' ((arrT a).star Y) := by
  obtain ⟨va, vc, rfl, -, -, -⟩ := id hv
  rw [List.length_map] at hv ⊢
  obtain ⟨n, hn⟩ : ∃ n, ss.length = n := ⟨_, rfl⟩
  have hi : (K : Int) + (M : Int) = (n : Int) := by omega
  rw [hn] at hv hl ⊢
  obtain ⟨k1, m1, n2, b1, b2⟩ := h
  have HN := Lib.hid hn
  have HV := Lib.hid hv
  have HL := Lib.hid hL
  have HS := Lib.hid hl
  have hx1 : Ext w (w.alloc (.cells #[.int .i64 K, .int .i64 M, .int .i64 B] 23)) := (Ext.refl w).alloc (Nat.le_refl _) _
  have hr := Row.new w 23 #[.int .i64 K, .int .i64 M, .int .i64 B]
  obtain ⟨bb, hbb⟩ : ∃ bb, w.heap.size = bb := ⟨_, rfl⟩
  clear hv hL hn hl
  go_enter Tryz.func69, Tryz.ntmps69
  go_wp2_with fail
  rw [hbb] at hr
  generalize w.alloc (.cells #[.int .i64 K, .int .i64 M, .int .i64 B] 23) = w1 at hr hx1 ⊢
  refine (rsnew_any K M k1 m1 n2 _).mono ?_; rintro e w2 ⟨cb, X, hX, rfl, -, x2⟩
  have HX2 := Lib.hid (Ext.trans hx1 x2)
  have HR := Lib.hid (hr.ext x2)
  have d0 := HR.out.cell (i := 0) (v := .int .i64 K) rfl
  have d1 := HR.out.cell (i := 1) (v := .int .i64 M) rfl
  have d2 := HR.out.cell (i := 2) (v := .int .i64 B) rfl
  clear hX x2 hx1 hr hbb
  have q1 : ((n : Int) != (n : Int)) = false := by simp
  have q2 : 16 ≤ (B : Int) := by omega
  have q3 : (B : Int) ≤ 4096 := by omega
  go_wp2_with fail
  have qn : ∀ (x : Value) (w : World), (binOp .eql 156 (.iface 42 x) .nilIface).run Tryz.prog w = .ok (.bool false) w := fun x w => by kernel_rfl
  go_loop [42] (fun v42 => ∃ i : Nat, i ≤ n ∧ v42 = .int .i64 (i : Nat)) (fun v42 => (n - intOf v42).toNat)
  case atStart => exact ⟨0, by omega, rfl⟩
  case round =>
    obtain ⟨i, hin, rfl⟩ := hrel
    by_cases hlt : i < n
    · have hlt' : (i : Int) < (n : Int) := by omega
      obtain ⟨sa, hsa⟩ : ∃ sa, ss[i]? = some sa := ⟨_, List.getElem?_eq_getElem (by rw [HN.out]; exact hlt)⟩
      obtain ⟨b0, o0, rfl, c5⟩ := (HV.out.ext HX2.out).at (show (ss.map dval)[i]? = some (dval sa) by rw [List.getElem?_map, hsa]; rfl)
      unfold dval at c5
      clear hsa
      go_wp2_with fail
      exact ⟨⟨i + 1, by omega, by go_num⟩, by simp [intOf]; omega⟩
    · obtain rfl : i = n := by omega
      clear hlt qn
      go_wp2_with fail
      have x0 : Ext w w2.drew := Ext.trans HX2.out (Ext.of_drawn w2 1)
      have S0 : (fun w' : World => w'.cell? ⟨bb, 0, none⟩ = some (.int .i64 K) ∧ w'.cell? ⟨bb, 1, none⟩ = some (.int .i64 M) ∧ w'.cell? ⟨bb, 2, none⟩ = some (.int .i64 B)) w2.drew := ⟨d0, d1, d2⟩
      have CL : Hid (Calls Tryz.prog 97 #[.slice va i vc] w2.drew fun e w' => ∃ g c, e = .returned (.slice (some ⟨g, 0, none⟩) i c) ∧ (fun w' : World => w'.cell? ⟨bb, 0, none⟩ = some (.int .i64 K) ∧ w'.cell? ⟨bb, 1, none⟩ = some (.int .i64 M) ∧ w'.cell? ⟨bb, 2, none⟩ = some (.int .i64 B)) w' ∧ Hid (Own w' w2.drew.heap.size 156 (.slice (some ⟨g, 0, none⟩) i c) (ss.map dval) ∧ Ext w2.drew w')) := Lib.hid ((dclone_any _ ss (by rw [HN.out]; omega) (by rw [HN.out]; omega) _ (HV.out.ext x0)).mono fun e w' ⟨g, c, h1, h2, h3⟩ => ⟨g, c, by rw [h1, HN.out], ⟨h3.cell d0, h3.cell d1, h3.cell d2⟩, Lib.hid ⟨by rw [← HN.out]; exact h2, h3⟩⟩)
      clear x0
      go_region_held3 (fun w' : World => w'.cell? ⟨bb, 0, none⟩ = some (.int .i64 K) ∧ w'.cell? ⟨bb, 1, none⟩ = some (.int .i64 M) ∧ w'.cell? ⟨bb, 2, none⟩ = some (.int .i64 B)) (first | assumption | go_keep) (first | (go_at_call 97; refine CL.out.mono ?_; rintro e w4 ⟨g, c, rfl, hS4, ho4⟩))
      have hn := HN.out
      subst hn
      have L4 := ((HL.out.ext (Ext.trans HX2.out (Ext.of_drawn w2 1))).new ho4.out.2 (X := ownT 156 (.slice (some ⟨g, 0, none⟩) ss.length c) (ss.map dval)) (T := fun b => (Value.slice (some ⟨g, 0, none⟩) ss.length c).ownBlock = some b) ⟨ho4.out.1.mono (Nat.zero_le _), fun _ => Iff.rfl⟩ fun b hb => ho4.out.1.block b hb).newrow 131 #[.int .i64 K, .int .i64 M, .int .i64 B, .pointer (some ⟨cb, 0, none⟩), .slice (some ⟨g, 0, none⟩) ss.length c]
      have L5 := Lib.hid L4.assoc'
      clear L4 S0 hS4 ho4 CL d0 d1 d2
      go_wp2_with fail
      go_ret2
      exact ⟨⟨_, K, M, B, cb, g, c, ss⟩, ⟨rfl, rfl, rfl, rfl⟩, rfl, L5.out⟩
/-! ### the reference's array -/
def rval (r : Nat) : Value := .pointer (some ⟨r, 0, none⟩)
def rarrT (a : AA) : Thing := (rowT a.ab 144 #[.int .i64 a.K, .int .i64 a.M, .int .i64 a.B, .pointer (some ⟨a.cb, 0, none⟩), a.dv]).star (ownT 140 a.dv (a.ss.map rval))
theorem rnewarray_any (K M B : Nat) (h : ShOk K M B) (g c : Nat) (rs : List Nat) (hl : rs.length = K + M) (w0 w : World) (Y : Thing) (hL : Lab w0 w ((ownT 140 (.slice (some ⟨g, 0, none⟩) rs.length c) (rs.map rval)).star Y)) :
    Calls Tryz.prog 70 #[.agg #[.int .i64 K, .int .i64 M, .int .i64 B], .slice (some ⟨g, 0, none⟩) rs.length c] w fun e w' => ∃ a : AA, (a.K = K ∧ a.M = M ∧ a.B = B ∧ a.ss = rs) ∧ e = .returned (.tuple #[.pointer (some ⟨a.ab, 0, none⟩), .int .i64 0]) ∧ Lab w0 w' ((rarrT a).star Y) := by
  obtain ⟨n, hn⟩ : ∃ n, rs.length = n := ⟨_, rfl⟩
  have hi : (K : Int) + (M : Int) = (n : Int) := by omega
  rw [hn] at hl hL ⊢
  obtain ⟨k1, m1, n2, b1, b2⟩ := h
  have HN := Lib.hid hn
  have HL := Lib.hid hL
  have HS := Lib.hid hl
  have hx1 : Ext w (w.alloc (.cells #[.int .i64 K, .int .i64 M, .int .i64 B] 23)) := (Ext.refl w).alloc (Nat.le_refl _) _
  have hr := Row.new w 23 #[.int .i64 K, .int .i64 M, .int .i64 B]
  obtain ⟨bb, hbb⟩ : ∃ bb, w.heap.size = bb := ⟨_, rfl⟩
  clear hL hn hl
  go_enter Tryz.func70, Tryz.ntmps70
  go_wp2_with fail
  rw [hbb] at hr
  generalize w.alloc (.cells #[.int .i64 K, .int .i64 M, .int .i64 B] 23) = w1 at hr hx1 ⊢
  refine (rrsnew_any K M k1 m1 n2 _).mono ?_; rintro e w2 ⟨cb, X, xa, xc, hX, rfl, -, -, -, x2⟩
  have L2 := Lib.hid (HL.out.ext (Ext.trans hx1 x2))
  have HR := Lib.hid (hr.ext x2)
  have d0 := HR.out.cell (i := 0) (v := .int .i64 K) rfl
  have d1 := HR.out.cell (i := 1) (v := .int .i64 M) rfl
  have d2 := HR.out.cell (i := 2) (v := .int .i64 B) rfl
  clear hX x2 hx1 hr hbb
  have q1 : ((n : Int) != (n : Int)) = false := by simp
  have q2 : 16 ≤ (B : Int) := by omega
  have q3 : (B : Int) ≤ 4096 := by omega
  go_wp2_with fail
  have hn := HN.out
  subst hn
  have L5 := Lib.hid (L2.out.newrow 144 #[.int .i64 K, .int .i64 M, .int .i64 B, .pointer (some ⟨cb, 0, none⟩), .slice (some ⟨g, 0, none⟩) rs.length c]).assoc'
  clear d0 d1 d2
  go_ret2
  exact ⟨⟨_, K, M, B, cb, g, c, rs⟩, ⟨rfl, rfl, rfl, rfl⟩, rfl, L5.out⟩
end Go.Proofs.YthkbbcdnmdjhdaaGreat
