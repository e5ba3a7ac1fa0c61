/-
  Whether two matrices are the same: matrix.Same, the reference's Same.
-/
import Derived.Test.YtdmdcgcmappliaaMxH
import Derived.Test.YtdmdcgcmappliaaStr
import Derived.Deep.QuietTactic
import Derived.BigQuiet
namespace Go.Proofs.Ytdmdcgcmappliaa
open Go.RowKit
set_option maxRecDepth 100000
set_option maxHeartbeats 4000000
attribute [local go_sem] min_int2 max_int2 bstr_toList

theorem str_conv {w : World} {v : Value} {l : List UInt8} (h : Bytes w v l) : ∀ W, Ext w W → (convert 34 9 v).run Try.prog W = .ok (.string (bstr l)) W :=
  fun _ hx => run_tostr Try.underlying34 Try.underlying5 Try.underlying9 (h.ext hx)
theorem beq_any (v u : Value) (l k : List UInt8) (d : Bool) (hd : (l == k) = d) (w : World) (hV : Bytes w v l) (hU : Bytes w u k) :
    Calls Try.prog 66 #[v, u] w fun e w' => e = .returned (.bool d) ∧ w = w' := by
  obtain ⟨a, c, rfl⟩ := hV.slice
  obtain ⟨a2, c2, rfl⟩ := hU.slice
  have y1 := str_conv hV w (Ext.refl w)
  have y2 := str_conv hU w (Ext.refl w)
  clear hV hU
  go_enter Try.func66, Try.ntmps66
  go_wp2_with fail
  go_ret
  exact ⟨rfl, rfl⟩

/-- The reference's Same. -/
theorem rsame_any (v u : Value) (ls ks : List (List UInt8)) (d : Bool) (hd : d = true ↔ ls = ks) (hl : ls.length ≤ maxLen) (w : World) (hV : BRows w v ls) (hU : BRows w u ks) :
    Calls Try.prog 20 #[v, u] w fun e w' => e = .returned (.bool d) ∧ ∃ m, w' = w.drewN m := by
  obtain ⟨a, cap, rfl⟩ := hV.form
  obtain ⟨a2, cap2, rfl⟩ := hU.form
  have HV := Lib.hid hV
  have HU := Lib.hid hU
  have HD := Lib.hid hd
  clear hV hU hd
  unfold maxLen at hl
  by_cases hlen : ls.length = ks.length
  · rw [hlen] at HV hl
    rw [hlen]
    have HL := Lib.hid hlen
    clear hlen
    go_enter Try.func20, Try.ntmps20
    go_wp2_with fail
    go_loopw [5] (fun v5 wr => ∃ i : Nat, i ≤ ks.length ∧ v5 = .int .i64 i ∧ Hid (∀ j, j < i → ls[j]? = ks[j]?) ∧ ∃ m, wr = w.drewN m) (fun v5 _ => (ks.length - intOf v5).toNat)
    case atStart => exact ⟨0, by omega, rfl, Lib.hid fun j h => by omega, 0, rfl⟩
    case round =>
      obtain ⟨i, hi, rfl, hJ, hm⟩ := hrel
      have hM := Lib.hid hm
      have hx1 : Ext w wr := by obtain ⟨m, rfl⟩ := hm; exact Ext.of_drawn _ _
      clear hm
      by_cases hlt : i < ks.length
      · have hll : i < ls.length := by rw [HL.out]; exact hlt
        obtain ⟨rb, ro, ra, rc, rfl, c1, hb⟩ := (HV.out.ext hx1).at (List.getElem?_eq_getElem hll)
        obtain ⟨rb2, ro2, ra2, rc2, rfl, c2, hb2⟩ := (HU.out.ext hx1).at (List.getElem?_eq_getElem hlt)
        obtain ⟨x, hx⟩ : ∃ x, ls[i] = x := ⟨_, rfl⟩
        obtain ⟨y, hy⟩ : ∃ y, ks[i] = y := ⟨_, rfl⟩
        rw [hx] at c1 hb
        rw [hy] at c2 hb2
        have y1 := str_conv hb
        have y2 := str_conv hb2
        have z1 := fun n => y1 (wr.drewN n) (Ext.of_drawn wr n)
        have z2 := fun n => y2 (wr.drewN n) (Ext.of_drawn wr n)
        clear hb hb2 y1 y2
        have HX := Lib.hid (show ls[i]? = some x by rw [List.getElem?_eq_getElem hll, hx])
        have HY := Lib.hid (show ks[i]? = some y by rw [List.getElem?_eq_getElem hlt, hy])
        clear hx hy hll
        by_cases hxy : x = y
        · subst hxy
          go_wp2_with fail
          go_quiet (fail)
          have x1 : Hid (∃ m, wr.drewN nq = w.drewN m) := by obtain ⟨m, hm⟩ := hM.out; exact ⟨m + nq, by rw [hm, World.drewN_drewN]⟩
          generalize wr.drewN nq = wt at x1 ⊢
          go_wp2_with fail
          refine ⟨⟨i + 1, by omega, by go_num, Lib.hid fun j hj => ?_, x1⟩, by simp [intOf]; omega⟩
          by_cases e : j = i
          · subst e; rw [HX.out, HY.out]
          · exact hJ.out j (by omega)
        · have q1 : (x == y) = false := beq_eq_false_iff_ne.2 hxy
          have q2 : Hid (d = false) := Lib.hid (by
            cases d with
            | false => rfl
            | true => have := HD.out.1 rfl; subst this; rw [HX.out] at HY; have := HY.out; cases this; exact absurd rfl hxy)
          clear hxy
          go_wp2_with fail
          go_quiet (fail)
          have x1 : Hid (∃ m, wr.drewN nq = w.drewN m) := by obtain ⟨m, hm⟩ := hM.out; exact ⟨m + nq, by rw [hm, World.drewN_drewN]⟩
          generalize wr.drewN nq = wt at x1 ⊢
          go_wp2_with fail
          go_ret
          exact ⟨by rw [q2.out]; rfl, x1.out⟩
      · obtain rfl : i = ks.length := by omega
        have q2 : Hid (d = true) := Lib.hid (HD.out.2 (by
          apply List.ext_getElem?
          intro j
          by_cases hj : j < ks.length
          · exact hJ.out j hj
          · rw [List.getElem?_eq_none (by rw [HL.out]; omega), List.getElem?_eq_none (by omega)]))
        clear hlt
        go_wp2_with fail
        go_ret
        exact ⟨by rw [q2.out]; rfl, hM.out⟩
  · have q2 : Hid (d = false) := Lib.hid (by
      cases d with
      | false => rfl
      | true => have := HD.out.1 rfl; subst this; exact absurd rfl hlen)
    have q1 : ((ls.length : Int) != (ks.length : Int)) = true := (bne_len _ _).trans (decide_eq_true hlen)
    clear hlen
    go_enter Try.func20, Try.ntmps20
    go_wp2_with fail
    go_ret
    exact ⟨by rw [q2.out]; rfl, 0, rfl⟩

/-- matrix.Same. -/
theorem eqf_any (v u : Value) (ls ks : List (List UInt8)) (d : Bool) (hd : d = true ↔ ls = ks) (hl : ls.length ≤ maxLen) (w : World) (hV : BRows w v ls) (hU : BRows w u ks) :
    Calls Try.prog 65 #[v, u, .func (.func 66) #[] #[]] w fun e w' => e = .returned (.bool d) ∧ ∃ m, w' = w.drewN m := by
  obtain ⟨a, cap, rfl⟩ := hV.form
  obtain ⟨a2, cap2, rfl⟩ := hU.form
  have HV := Lib.hid hV
  have HU := Lib.hid hU
  have HD := Lib.hid hd
  clear hV hU hd
  unfold maxLen at hl
  by_cases hlen : ls.length = ks.length
  · rw [hlen] at HV hl
    rw [hlen]
    have HL := Lib.hid hlen
    clear hlen
    go_enter Try.func65, Try.ntmps65
    go_wp2_with fail
    go_loopw [17] (fun v17 wr => ∃ i : Nat, i ≤ ks.length ∧ v17 = .int .i64 i ∧ Hid (∀ j, j < i → ls[j]? = ks[j]?) ∧ wr = w) (fun v17 _ => (ks.length - intOf v17).toNat)
    case atStart => exact ⟨0, by omega, rfl, Lib.hid fun j h => by omega, rfl⟩
    case round =>
      obtain ⟨i, hi, rfl, hJ, rfl⟩ := hrel
      by_cases hlt : i < ks.length
      · have hll : i < ls.length := by rw [HL.out]; exact hlt
        obtain ⟨rb, ro, ra, rc, rfl, c1, hb⟩ := HV.out.at (List.getElem?_eq_getElem hll)
        obtain ⟨rb2, ro2, ra2, rc2, rfl, c2, hb2⟩ := HU.out.at (List.getElem?_eq_getElem hlt)
        obtain ⟨x, hx⟩ : ∃ x, ls[i] = x := ⟨_, rfl⟩
        obtain ⟨y, hy⟩ : ∃ y, ks[i] = y := ⟨_, rfl⟩
        rw [hx] at c1 hb
        rw [hy] at c2 hb2
        have HB1 := Lib.hid hb
        have HB2 := Lib.hid hb2
        clear hb hb2
        have HX := Lib.hid (show ls[i]? = some x by rw [List.getElem?_eq_getElem hll, hx])
        have HY := Lib.hid (show ks[i]? = some y by rw [List.getElem?_eq_getElem hlt, hy])
        have hlt' : (i : Int) < (ks.length : Int) := by omega
        clear hx hy hll
        by_cases hxy : x = y
        · have q1 := Lib.hid (beq_iff_eq.2 hxy)
          have HXY := Lib.hid hxy
          clear hxy
          go_wp2_with fail
          refine (beq_any _ _ x y true q1.out _ HB1.out HB2.out).mono ?_; rintro e w' ⟨rfl, rfl⟩
          go_wp2_with fail
          refine ⟨⟨i + 1, by omega, by go_num, Lib.hid fun j hj => ?_, trivial⟩, by simp [intOf]; omega⟩
          by_cases e : j = i
          · subst e; rw [HX.out, HY.out, HXY.out]
          · exact hJ.out j (by omega)
        · have q1 := Lib.hid (beq_eq_false_iff_ne.2 hxy)
          have q2 : Hid (d = false) := Lib.hid (by
            cases d with
            | false => rfl
            | true => have := HD.out.1 rfl; subst this; rw [HX.out] at HY; have := HY.out; cases this; exact absurd rfl hxy)
          clear hxy
          go_wp2_with fail
          refine (beq_any _ _ x y false q1.out _ HB1.out HB2.out).mono ?_; rintro e w' ⟨rfl, rfl⟩
          go_wp2_with fail
          go_ret
          exact ⟨by rw [q2.out]; rfl, 0, rfl⟩
      · obtain rfl : i = ks.length := by omega
        have q2 : Hid (d = true) := Lib.hid (HD.out.2 (by
          apply List.ext_getElem?
          intro j
          by_cases hj : j < ks.length
          · exact hJ.out j hj
          · rw [List.getElem?_eq_none (by rw [HL.out]; omega), List.getElem?_eq_none (by omega)]))
        clear hlt
        go_wp2_with fail
        go_ret
        exact ⟨by rw [q2.out]; rfl, 0, rfl⟩
  · have q2 : Hid (d = false) := Lib.hid (by
      cases d with
      | false => rfl
      | true => have := HD.out.1 rfl; subst this; exact absurd rfl hlen)
    have q1 : ((ls.length : Int) != (ks.length : Int)) = true := (bne_len _ _).trans (decide_eq_true hlen)
    clear hlen
    go_enter Try.func65, Try.ntmps65
    go_wp2_with fail
    go_ret
    exact ⟨by rw [q2.out]; rfl, 0, rfl⟩
theorem hmk_equal : ∀ (fn : Fn) (first cap : Array Value) (w : World), (Instr.makeFunc fn first cap).run Try.prog w = .ok (.func fn first cap) w := fun _ _ _ _ => rfl
theorem same_any (v u : Value) (ls ks : List (List UInt8)) (d : Bool) (hd : d = true ↔ ls = ks) (hl : ls.length ≤ maxLen) (w : World) (hV : BRows w v ls) (hU : BRows w u ks) :
    Calls Try.prog 44 #[v, u] w fun e w' => e = .returned (.bool d) ∧ ∃ m, w' = w.drewN m := by
  obtain ⟨a, cap, rfl⟩ := hV.form
  obtain ⟨a2, cap2, rfl⟩ := hU.form
  have HV := Lib.hid hV
  have HU := Lib.hid hU
  have HD := Lib.hid hd
  have HM := Lib.hid hl
  clear hV hU hd hl
  have hmf := hmk_equal
  go_enter Try.func44, Try.ntmps44
  go_wp2_with fail
  refine (eqf_any _ _ ls ks d HD.out HM.out _ HV.out HU.out).mono ?_; rintro e w' ⟨rfl, hm⟩
  have HW := Lib.hid hm
  clear hm
  go_wp2_with fail
  go_ret
  exact ⟨rfl, HW.out⟩
end Go.Proofs.Ytdmdcgcmappliaa
