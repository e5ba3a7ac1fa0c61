/-
  The second layer's statements: awake, Small.
-/
import Derived.Test.YtdmdcgcmappliaaMxJ
import Derived.Test.YtdmdcgcmappliaaMxK
namespace Go.Proofs.Ytdmdcgcmappliaa
open Go.RowKit
set_option maxRecDepth 100000
set_option maxHeartbeats 4000000
attribute [local go_sem] min_int2 max_int2 bstr_toList

theorem mawake_any (w : World) : Calls Try.prog 16 #[] w fun e w' => e = .returned (.bool true) ∧ Ext w w' := by
  have e1 : Mat.minv 3 (Mat.unit 3) = some (Mat.unit 3) := by
    obtain ⟨z, hz⟩ : ∃ z, Mat.minv 3 (Mat.unit 3) = some z := by
      cases h : Mat.minv 3 (Mat.unit 3) with
      | none => exact absurd h (by decide +kernel)
      | some z => exact ⟨z, rfl⟩
    have hl := Mat.minv_left (Mat.unit_sh 3) hz
    rw [Mat.mmul_unit (Mat.minv_spec (Mat.unit_sh 3) hz).1] at hl
    rw [hz, hl]
  have e2 : Mat.sys 1 2 = some [[1], [1], [1]] := by decide +kernel
  have E1 := Lib.hid e1
  have E2 := Lib.hid e2
  clear e1 e2
  go_enter Try.func16, Try.ntmps16
  go_wp2_with fail
  refine (unit_any 3 (by decide) (by decide) _).mono ?_; rintro e w1 ⟨g, vs, rfl, hO, hx1⟩
  have HU := Lib.hid hO.mr
  have X1 := Lib.hid hx1
  clear hO hx1
  go_wp2_with fail
  refine (invert_any _ (Mat.unit 3) 3 (by decide) (Mat.unit_sh 3) _ (HU.out.brows rfl)).mono ?_
  rintro e w2 (⟨hn, -, -⟩ | ⟨z, g2, hz, rfl, hZ, hx2⟩)
  · rw [E1.out] at hn; cases hn
  · rw [E1.out] at hz
    cases hz
    have HU2 := Lib.hid (HU.out.ext hx2)
    have HZ := Lib.hid hZ
    have X2 := Lib.hid (Ext.trans X1.out hx2)
    clear hZ hx2 HU
    go_wp2_with fail
    refine (sys_any 1 2 (by decide) (by decide) (by decide) _).mono ?_; rintro e w3 ⟨x, g3, hx, rfl, hX, hx3⟩
    rw [E2.out] at hx
    cases hx
    have HU3 := Lib.hid (HU2.out.ext hx3)
    have HZ3 := Lib.hid (HZ.out.ext hx3)
    have HX := Lib.hid hX
    have X3 := Lib.hid (Ext.trans X2.out hx3)
    obtain ⟨ra, rc, c1, hb⟩ := hX.at (i := 2) (l := [1]) rfl
    have C1 := Lib.hid c1
    have HB := Lib.hid hb
    clear hX hx3 hb HU2 HZ
    go_wp2_with fail
    refine (same_any _ _ (Mat.unit 3) (Mat.unit 3) true (by simp) (by decide) _ (HU3.out.brows rfl) (HZ3.out.brows rfl)).mono ?_; rintro e w4 ⟨rfl, m, hm⟩
    have x4 : Ext w3 w4 := by rw [hm]; exact Ext.of_drawn _ _
    have X4 := Lib.hid (Ext.trans X3.out x4)
    have HU4 := Lib.hid (HU3.out.ext x4)
    have c1 : w4.cell? ⟨g3, 2, none⟩ = some (.slice ra 1 rc) := Ext.cell x4 C1.out
    have hb1 : Bytes w4 (.slice ra 1 rc) [1] := HB.out.ext x4
    have y1 := str_conv hb1 w4 (Ext.refl _)
    clear hb1
    clear x4 hm
    go_wp2_with fail
    refine (square_good _ (Mat.unit 3) 3 3 (by decide) (by decide) (by decide) (by decide) (Mat.unit_sh 3) _ (HU4.out.brows rfl)).mono ?_; rintro e w5 ⟨rfl, x5⟩
    have X5 := Lib.hid (Ext.trans X4.out x5)
    clear x5 y1 c1
    rw [decide_eq_true (rfl : 3 = 3)]
    go_wp2_with fail
    go_ret
    exact ⟨rfl, X5.out⟩
theorem small_any (v : Value) (ls : List (List UInt8)) (d : Bool) (hd : d = true ↔ (ls.length ≤ 40 ∧ ∀ r ∈ ls, r.length ≤ 40)) (w : World) (hV : BRows w v ls) :
    Calls Try.prog 17 #[v] w fun e w' => e = .returned (.bool d) ∧ w = w' := by
  obtain ⟨a, cap, rfl⟩ := hV.form
  have HV := Lib.hid hV
  have HD := Lib.hid hd
  clear hV hd
  by_cases h40 : ls.length ≤ 40
  · go_enter Try.func17, Try.ntmps17
    go_wp2_with fail
    go_loop [3] (fun v3 => ∃ i : Nat, i ≤ ls.length ∧ v3 = .int .i64 i ∧ Hid (∀ j r, j < i → ls[j]? = some r → r.length ≤ 40)) (fun v3 => (ls.length - intOf v3).toNat)
    case atStart => exact ⟨0, by omega, rfl, Lib.hid fun j r h => by omega⟩
    case round =>
      obtain ⟨i, hi, rfl, hJ⟩ := hrel
      by_cases hlt : i < ls.length
      · obtain ⟨rb, ro, ra, rc, rfl, c1, -⟩ := HV.out.at (List.getElem?_eq_getElem hlt)
        by_cases hr : ls[i].length ≤ 40
        · have HR := Lib.hid hr
          go_wp2_with fail
          refine ⟨⟨i + 1, by omega, by go_num, Lib.hid fun j r hj hjr => ?_⟩, by simp [intOf]; omega⟩
          by_cases e : j = i
          · subst e
            rw [List.getElem?_eq_getElem hlt] at hjr
            cases hjr
            exact HR.out
          · exact hJ.out j r (by omega) hjr
        · have q2 : Hid (d = false) := Lib.hid (by
            cases d with
            | false => rfl
            | true => exact absurd ((HD.out.1 rfl).2 _ (List.getElem_mem hlt)) hr)
          have hr2 : 40 < ls[i].length := by omega
          clear hr
          go_wp2_with fail
          go_ret
          exact ⟨by rw [q2.out]; rfl, rfl⟩
      · have q2 : Hid (d = true) := Lib.hid (HD.out.2 ⟨h40, fun r hr => by
          obtain ⟨j, hj⟩ := List.getElem?_of_mem hr
          have := (List.getElem?_eq_some_iff.1 hj).1
          exact hJ.out j r (by omega) hj⟩)
        go_wp2_with fail
        go_ret
        exact ⟨by rw [q2.out]; rfl, rfl⟩
  · have q2 : Hid (d = false) := Lib.hid (by
      cases d with
      | false => rfl
      | true => exact absurd (HD.out.1 rfl).1 h40)
    have h41 : 40 < ls.length := by omega
    clear h40
    go_enter Try.func17, Try.ntmps17
    go_wp2_with fail
    go_ret
    exact ⟨by rw [q2.out]; rfl, rfl⟩
end Go.Proofs.Ytdmdcgcmappliaa
