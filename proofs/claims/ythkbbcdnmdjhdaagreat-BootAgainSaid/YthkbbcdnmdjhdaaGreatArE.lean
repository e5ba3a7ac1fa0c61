/-
  Where an array may not be: array.New's and NewArray's refusals.
-/
import Derived.Test.YthkbbcdnmdjhdaaGreatArD
/-! XArE: Where an array may not be: array.New's and NewArray's refusals. -/
namespace Go.Proofs.YthkbbcdnmdjhdaaGreat
open Go.RowKit Dk
set_option maxRecDepth 100000
set_option maxHeartbeats 4000000
attribute [local go_sem] min_int2 max_int2 bstr_toList

theorem anew_bad (K M : Nat) (B : Int) (h1 : 1 ≤ K) (h2 : 1 ≤ M) (h3 : K + M ≤ 255) (va : Option Addr) (n vc : Nat) (hb : ¬ (16 ≤ B ∧ B ≤ 4096 ∧ n = K + M)) (w : World) :
    Calls Tryz.prog 69 #[.agg #[.int .i64 K, .int .i64 M, .int .i64 B], .slice va n vc] w fun e w' => e = .returned (.tuple #[.pointer none, .int .i64 1]) ∧ Ext w w' := by
  obtain ⟨q, hq⟩ : ∃ q, K + M = q := ⟨_, rfl⟩
  have hi : (K : Int) + (M : Int) = (q : Int) := by omega
  rw [hq] at hb
  have HB := Lib.hid hb
  have HQ := Lib.hid (And.intro hq h3)
  have hx1 : Ext w (w.alloc (.cells #[.int .i64 K, .int .i64 M, .int .i64 B] 23)) := (Ext.refl w).alloc (Nat.le_refl _) _
  have hr := Row.new w 23 #[.int .i64 K, .int .i64 M, .int .i64 B]
  obtain ⟨bb, hbb⟩ : ∃ bb, w.heap.size = bb := ⟨_, rfl⟩
  clear hb hq h3
  go_enter Tryz.func69, Tryz.ntmps69
  go_wp2_with fail
  rw [hbb] at hr
  generalize w.alloc (.cells #[.int .i64 K, .int .i64 M, .int .i64 B] 23) = w1 at hr hx1 ⊢
  refine (rsnew_any K M h1 h2 HQ.out.2 _).mono ?_; rintro e w2 ⟨cb, X, hX, rfl, -, x2⟩
  have HX2 := Lib.hid (Ext.trans hx1 x2)
  have HR := Lib.hid (hr.ext x2)
  have d0 := HR.out.cell (i := 0) (v := .int .i64 K) rfl
  have d1 := HR.out.cell (i := 1) (v := .int .i64 M) rfl
  have d2 := HR.out.cell (i := 2) (v := .int .i64 B) rfl
  have hqb : q ≤ 255 := by rw [← HQ.out.1]; exact HQ.out.2
  clear hX x2 hx1 hr hbb
  by_cases e1 : B < 16
  · go_wp2_with fail
    go_ret2
    exact ⟨rfl, HX2.out⟩
  have q2 : 16 ≤ B := by omega
  clear e1
  by_cases e2 : 4096 < B
  · go_wp2_with fail
    go_ret2
    exact ⟨rfl, HX2.out⟩
  have q3 : B ≤ 4096 := by omega
  have q4 : ((n : Int) != (q : Int)) = true := (bne_len _ _).trans (decide_eq_true fun h => HB.out ⟨q2, q3, h⟩)
  clear e2
  go_wp2_with fail
  go_ret2
  exact ⟨rfl, HX2.out⟩
theorem rnewarray_bad (K M : Nat) (B : Int) (h1 : 1 ≤ K) (h2 : 1 ≤ M) (h3 : K + M ≤ 255) (va : Option Addr) (n vc : Nat) (hb : ¬ (16 ≤ B ∧ B ≤ 4096 ∧ n = K + M)) (w : World) :
    Calls Tryz.prog 70 #[.agg #[.int .i64 K, .int .i64 M, .int .i64 B], .slice va n vc] w fun e w' => e = .returned (.tuple #[.pointer none, .int .i64 1]) ∧ Ext w w' := by
  obtain ⟨q, hq⟩ : ∃ q, K + M = q := ⟨_, rfl⟩
  have hi : (K : Int) + (M : Int) = (q : Int) := by omega
  rw [hq] at hb
  have HB := Lib.hid hb
  have HQ := Lib.hid (And.intro hq h3)
  have hx1 : Ext w (w.alloc (.cells #[.int .i64 K, .int .i64 M, .int .i64 B] 23)) := (Ext.refl w).alloc (Nat.le_refl _) _
  have hr := Row.new w 23 #[.int .i64 K, .int .i64 M, .int .i64 B]
  obtain ⟨bb, hbb⟩ : ∃ bb, w.heap.size = bb := ⟨_, rfl⟩
  clear hb hq h3
  go_enter Tryz.func70, Tryz.ntmps70
  go_wp2_with fail
  rw [hbb] at hr
  generalize w.alloc (.cells #[.int .i64 K, .int .i64 M, .int .i64 B] 23) = w1 at hr hx1 ⊢
  refine (rrsnew_any K M h1 h2 HQ.out.2 _).mono ?_; rintro e w2 ⟨cb, X, xa, xc, hX, rfl, -, -, -, x2⟩
  have HX2 := Lib.hid (Ext.trans hx1 x2)
  have HR := Lib.hid (hr.ext x2)
  have d0 := HR.out.cell (i := 0) (v := .int .i64 K) rfl
  have d1 := HR.out.cell (i := 1) (v := .int .i64 M) rfl
  have d2 := HR.out.cell (i := 2) (v := .int .i64 B) rfl
  have hqb : q ≤ 255 := by rw [← HQ.out.1]; exact HQ.out.2
  clear hX x2 hx1 hr hbb
  by_cases e1 : B < 16
  · go_wp2_with fail
    go_ret2
    exact ⟨rfl, HX2.out⟩
  have q2 : 16 ≤ B := by omega
  clear e1
  by_cases e2 : 4096 < B
  · go_wp2_with fail
    go_ret2
    exact ⟨rfl, HX2.out⟩
  have q3 : B ≤ 4096 := by omega
  have q4 : ((n : Int) != (q : Int)) = true := (bne_len _ _).trans (decide_eq_true fun h => HB.out ⟨q2, q3, h⟩)
  clear e2
  go_wp2_with fail
  go_ret2
  exact ⟨rfl, HX2.out⟩
end Go.Proofs.YthkbbcdnmdjhdaaGreat
