/-
  matrix.good, matrix.Square.
-/
import Derived.Test.YtdmdcgcmappliaaMxC
namespace Go.Proofs.Ytdmdcgcmappliaa
open Go.RowKit
set_option maxRecDepth 100000
set_option maxHeartbeats 4000000
attribute [local go_sem] min_int2 max_int2

theorem hmf_any : ∀ (fn : Fn) (first cap : Array Value) (w : World), (Instr.makeFunc fn first cap).run Try.prog w = .ok (.func fn first cap) w := fun _ _ _ _ => rfl

/-- The literal in good: a row's length is not the first row's. B: where the variable a lies. -/
theorem bne_len (a b : Nat) : ((a : Int) != (b : Int)) = decide (a ≠ b) := by
  by_cases h : a = b
  · subst h; simp
  · rw [decide_eq_true h]; simp; omega
/-- The literal in good: a row's length is not the first row's. B: where the variable a lies. -/
theorem lit_any (B : Nat) (a : Option Addr) (cap : Nat) (ls : List (List UInt8)) (h0 : 0 < ls.length) (r : Value) (l : List UInt8) (w : World) (hB : w.cell? ⟨B, 0, none⟩ = some (.slice a ls.length cap)) (hV : BRows w (.slice a ls.length cap) ls) (hr : Bytes w r l) :
    Calls Try.prog 72 #[r, .pointer (some ⟨B, 0, none⟩)] w fun e w' => e = .returned (.bool (decide (l.length ≠ ls[0].length))) ∧ w = w' := by
  obtain ⟨ra, rc, rfl⟩ := hr.slice
  obtain ⟨rb, ro, qa, qc, rfl, c1, hb⟩ := hV.at (List.getElem?_eq_getElem h0)
  rw [Nat.add_zero] at c1
  clear hb hr
  go_enter Try.func72, Try.ntmps72
  go_wp2_with fail
  go_ret
  exact ⟨ret_b (bne_len _ _), rfl⟩

theorem idx_any (B : Nat) (a : Option Addr) (cap : Nat) (ls : List (List UInt8)) (h0 : 0 < ls.length) (hl : ls.length ≤ maxLen) (w : World) (hB : w.cell? ⟨B, 0, none⟩ = some (.slice a ls.length cap)) (hV : BRows w (.slice a ls.length cap) ls) :
    Calls Try.prog 78 #[.slice a ls.length cap, .func (.func 72) #[] #[.pointer (some ⟨B, 0, none⟩)]] w fun e w' =>
      ∃ z : Int, e = .returned (.int .i64 z) ∧ (0 ≤ z ↔ ∃ r ∈ ls, r.length ≠ ls[0].length) ∧ Ext w w' := by
  have HV := Lib.hid hV
  have HB := Lib.hid hB
  unfold maxLen at hl
  clear hB hV
  go_enter Try.func78, Try.ntmps78
  go_wp2_with fail
  go_loopw [8] (fun v9 wr => ∃ i : Nat, i ≤ ls.length ∧ v9 = .int .i64 i ∧ Hid (∀ j r, j < i → ls[j]? = some r → r.length = ls[0].length) ∧ Below w.heap.size w wr) (fun v9 _ => (ls.length - intOf v9).toNat)
  case atStart => exact ⟨0, by omega, rfl, Lib.hid fun j r h => by omega, Ext.refl _⟩
  case round =>
    obtain ⟨i, hi, rfl, hJ, hBr⟩ := hrel
    by_cases hlt : i < ls.length
    · have HV1 := Lib.hid (HV.out.ext hBr)
      have HB1 := Lib.hid (Ext.cell hBr HB.out)
      obtain ⟨rb, ro, ra, rc, e1, c1, hb⟩ := HV1.out.at (List.getElem?_eq_getElem hlt)
      subst e1
      have HBB := Lib.hid hb
      have hlt' : (i : Int) < (ls.length : Int) := by omega
      clear hb
      have key : ∃ d : Bool, decide (ls[i].length ≠ ls[0].length) = d := ⟨_, rfl⟩
      obtain ⟨d, hd⟩ := key
      have lit : ∀ w', w' = wr → Calls Try.prog 72 #[.slice ra ls[i].length rc, .pointer (some ⟨B, 0, none⟩)] w' fun e w'' => e = .returned (.bool d) ∧ w' = w'' := by
        intro w' e
        subst e
        rw [← hd]
        exact lit_any B _ cap ls h0 _ ls[i] _ HB1.out HV1.out HBB.out
      have HD := Lib.hid hd
      clear hd
      cases d
      · go_wp2_with fail
        refine (lit _ rfl).mono ?_; rintro e w' ⟨rfl, rfl⟩
        clear lit
        go_wp2_with fail
        refine ⟨⟨i + 1, by omega, by go_num, Lib.hid fun j r hj hr => ?_, hBr⟩, by simp [intOf]; omega⟩
        by_cases e : j = i
        · subst e
          rw [List.getElem?_eq_getElem hlt] at hr
          cases hr
          have := HD.out
          exact Decidable.not_not.1 (of_decide_eq_false this)
        · exact hJ.out j r (by omega) hr
      · go_wp2_with fail
        refine (lit _ rfl).mono ?_; rintro e w' ⟨rfl, rfl⟩
        clear lit
        go_wp2_with fail
        go_ret
        exact ⟨i, rfl, ⟨fun _ => ⟨ls[i], List.getElem_mem _, of_decide_eq_true HD.out⟩, fun _ => by omega⟩, hBr⟩
    · have HQ : Hid (¬ ∃ r ∈ ls, r.length ≠ ls[0].length) := Lib.hid fun ⟨r, hr, hn⟩ => by
        obtain ⟨j, hj⟩ := List.getElem?_of_mem hr
        have := (List.getElem?_eq_some_iff.1 hj).1
        exact hn (hJ.out j r (by omega) hj)
      have e : i = ls.length := by omega
      have hlt' : ¬ (i : Int) < (ls.length : Int) := by omega
      clear hJ e
      go_wp2_with fail
      go_ret
      exact ⟨-1, rfl, ⟨fun h => by omega, fun h => absurd h HQ.out⟩, hBr⟩

theorem cont_any (B : Nat) (a : Option Addr) (cap : Nat) (ls : List (List UInt8)) (h0 : 0 < ls.length) (hl : ls.length ≤ maxLen) (d : Bool) (hd : d = true ↔ ∃ r ∈ ls, r.length ≠ ls[0].length) (w : World) (hB : w.cell? ⟨B, 0, none⟩ = some (.slice a ls.length cap)) (hV : BRows w (.slice a ls.length cap) ls) :
    Calls Try.prog 71 #[.slice a ls.length cap, .func (.func 72) #[] #[.pointer (some ⟨B, 0, none⟩)]] w fun e w' =>
      e = .returned (.bool d) ∧ Ext w w' := by
  have HV := Lib.hid hV
  have HB := Lib.hid hB
  have HD := Lib.hid hd
  clear hB hV hd
  go_enter Try.func71, Try.ntmps71
  go_wp2_with fail
  refine (idx_any B a cap ls h0 hl _ HB.out HV.out).mono ?_; rintro e w' ⟨z, rfl, hz, hx⟩
  have HZ := Lib.hid hz
  clear hz
  go_wp2_with fail
  go_ret
  refine ⟨ret_b ?_, hx⟩
  cases d with
  | true => exact decide_eq_true (HZ.out.2 (HD.out.1 rfl))
  | false => exact decide_eq_false fun h => by have := HD.out.2 (HZ.out.1 h); cases this
end Go.Proofs.Ytdmdcgcmappliaa
