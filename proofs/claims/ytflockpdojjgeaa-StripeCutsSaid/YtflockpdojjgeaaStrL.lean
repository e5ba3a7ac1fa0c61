/-
  Layer 11: awake, and the statements by their walks.
-/
import Derived.Test.YtflockpdojjgeaaStrC
import Derived.Test.YtflockpdojjgeaaStrD
import Derived.Test.YtflockpdojjgeaaStr
namespace Go.Proofs.Ytflockpdojjgeaa
open Go.RowKit
set_option maxRecDepth 100000
set_option maxHeartbeats 4000000
attribute [local go_sem] min_int2 max_int2 bstr_toList

theorem str_conv {w : World} {v : Value} {l : List UInt8} (h : Bytes w v l) : ∀ W, Ext w W → (convert 22 9 v).run Try.prog W = .ok (.string (bstr l)) W :=
  fun _ hx => run_tostr Try.underlying22 Try.underlying5 Try.underlying9 (h.ext hx)

theorem strawake_any (w : World) : Calls Try.prog 14 #[] w fun e w' => e = .returned (.bool true) ∧ Ext w w' := by
  have hB : Bytes (w.alloc (.cells #[bv 1, bv 2, bv 3, bv 4, bv 5] 5)) (.slice (some ⟨w.heap.size, 0, none⟩) 5 5) [1, 2, 3, 4, 5] :=
    (Own.new w 0 5 #[bv 1, bv 2, bv 3, bv 4, bv 5] (Nat.zero_le _) (by decide)).cells
  have hx0 : Ext w (w.alloc (.cells #[bv 1, bv 2, bv 3, bv 4, bv 5] 5)) := (Ext.refl w).alloc (Nat.le_refl _) _
  have HB := Lib.hid hB
  clear hB
  go_enter Try.func14, Try.ntmps14
  go_wp2_with fail
  refine (split_yes _ [1, 2, 3, 4, 5] 2 1 (by unfold May; decide) _ HB.out).mono ?_; rintro e w1 ⟨g, vs, rfl, hO, hx1⟩
  have e1 : (List.range 2).map (Stripe.row [1, 2, 3, 4, 5] 2 1) = [[1, 3, 5], [2, 4, 0]] := by decide
  rw [e1] at hO
  have HO := Lib.hid hO.brows
  clear hO e1
  go_wp2_with fail
  refine (join_yes _ [[1, 3, 5], [2, 4, 0]] 5 1 (by unfold May; decide) (by decide) _ HO.out).mono ?_; rintro e w2 ⟨x, rfl, hX, hx2⟩
  have e2 : (Stripe.join [[1, 3, 5], [2, 4, 0]] (Stripe.len 5 2 1) 1 0).take 5 = [1, 2, 3, 4, 5] := by decide
  have hX' : Bytes w2 x [1, 2, 3, 4, 5] := e2 ▸ hX
  obtain ⟨rb, ro, ra, rc, e3, c1, hb⟩ := (HO.out.ext hx2).at (i := 1) (l := [2, 4, 0]) rfl
  simp only [Option.some.injEq, Addr.mk.injEq, and_true] at e3
  obtain ⟨rfl, rfl⟩ := e3
  have hb' : Bytes w2 (.slice ra 3 rc) [2, 4, 0] := hb
  have y1 := str_conv hb' w2 (Ext.refl _)
  have y2 := str_conv hX' w2 (Ext.refl _)
  clear hb hb' hX hX' e2
  go_wp2_with fail
  go_ret
  exact ⟨rfl, hx0.trans (hx1.trans hx2)⟩
end Go.Proofs.Ytflockpdojjgeaa
