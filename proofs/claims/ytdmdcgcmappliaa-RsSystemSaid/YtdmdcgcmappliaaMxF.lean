/-
  matrix.good, matrix.Square.
-/
import Derived.Test.YtdmdcgcmappliaaMxE
import Derived.Test.YtdmdcgcmappliaaMatMore
namespace Go.Proofs.Ytdmdcgcmappliaa
open Go.RowKit
set_option maxRecDepth 100000
set_option maxHeartbeats 4000000
attribute [local go_sem] min_int2 max_int2

theorem good_sides (v : Value) (ls : List (List UInt8)) (d : Bool) (h1 : 1 ≤ ls.length) (h2 : ls.length ≤ 255) (h3 : 1 ≤ (ls.getD 0 []).length) (h4 : (ls.getD 0 []).length ≤ 255) (hd : d = true ↔ ∃ r ∈ ls, r.length ≠ (ls.getD 0 []).length) (w : World) (hV : BRows w v ls) :
    Calls Try.prog 50 #[v] w fun e w' => e = .returned (.bool (!d)) ∧ Ext w w' := by
  obtain ⟨a, n, cap, rfl⟩ : ∃ a n cap, v = .slice a n cap := by obtain ⟨vs, ⟨a, cap, e, _⟩, _⟩ := hV; exact ⟨_, _, _, e⟩
  obtain rfl := hV.len
  have h0 : 0 < ls.length := by omega
  rw [Mat.getD_lt h0] at h3 h4 hd
  obtain ⟨rb, ro, qa, qc, rfl, c1, hb⟩ := hV.at (List.getElem?_eq_getElem h0)
  rw [Nat.add_zero] at c1
  have HV := Lib.hid hV
  have HD := Lib.hid hd
  have C1 := Lib.hid c1
  clear hV hd hb c1
  have hmf := hmf_any
  have xa := Lib.hid ((Ext.refl w).alloc (Nat.le_refl _) (.cells #[.slice (some ⟨rb, ro, none⟩) ls.length cap] 26))
  have c1 := Ext.cell xa.out C1.out
  have HB : Hid ((w.alloc (.cells #[.slice (some ⟨rb, ro, none⟩) ls.length cap] 26)).cell? ⟨w.heap.size, 0, none⟩ = some (.slice (some ⟨rb, ro, none⟩) ls.length cap)) := Lib.hid ((Row.new w _ _).cell rfl)
  have c2 := HB.out
  have HV1 := Lib.hid (HV.out.ext xa.out)
  go_enter Try.func50, Try.ntmps50
  go_wp2_with fail
  refine (side_yes ls.length (by omega) _).mono ?_; rintro e w' ⟨rfl, rfl⟩
  go_wp2_with fail
  refine (side_yes ls[0].length (by omega) _).mono ?_; rintro e w' ⟨rfl, rfl⟩
  go_wp2_with fail
  refine (cont_any w.heap.size _ cap ls h0 (by unfold maxLen; omega) d HD.out _ HB.out HV1.out).mono ?_; rintro e w2 ⟨rfl, hx2⟩
  have X2 := Ext.trans xa.out hx2
  clear c1 c2 xa hmf
  go_wp2_with fail
  go_ret
  exact ⟨rfl, X2⟩

theorem good_one (v : Value) (ls : List (List UInt8)) (h : ¬ (1 ≤ ls.length ∧ ls.length ≤ 255)) (w : World) (hV : BRows w v ls) :
    Calls Try.prog 50 #[v] w fun e w' => e = .returned (.bool false) ∧ Ext w w' := by
  obtain ⟨a, n, cap, rfl⟩ : ∃ a n cap, v = .slice a n cap := by obtain ⟨vs, ⟨a, cap, e, _⟩, _⟩ := hV; exact ⟨_, _, _, e⟩
  obtain rfl := hV.len
  have xa := Lib.hid ((Ext.refl w).alloc (Nat.le_refl _) (.cells #[.slice a ls.length cap] 26))
  have c2 : (w.alloc (.cells #[.slice a ls.length cap] 26)).cell? ⟨w.heap.size, 0, none⟩ = some (.slice a ls.length cap) := (Row.new w _ _).cell rfl
  have HN := Lib.hid h
  clear hV h
  go_enter Try.func50, Try.ntmps50
  go_wp2_with fail
  refine (side_no ls.length (by have := HN.out; omega) _).mono ?_; rintro e w' ⟨rfl, rfl⟩
  go_wp2_with fail
  go_ret
  exact ⟨rfl, xa.out⟩

theorem good_two (v : Value) (ls : List (List UInt8)) (h1 : 1 ≤ ls.length) (h2 : ls.length ≤ 255) (h : ¬ (1 ≤ (ls.getD 0 []).length ∧ (ls.getD 0 []).length ≤ 255)) (w : World) (hV : BRows w v ls) :
    Calls Try.prog 50 #[v] w fun e w' => e = .returned (.bool false) ∧ Ext w w' := by
  obtain ⟨a, n, cap, rfl⟩ : ∃ a n cap, v = .slice a n cap := by obtain ⟨vs, ⟨a, cap, e, _⟩, _⟩ := hV; exact ⟨_, _, _, e⟩
  obtain rfl := hV.len
  have h0 : 0 < ls.length := by omega
  rw [Mat.getD_lt h0] at h
  obtain ⟨rb, ro, qa, qc, rfl, c1, hb⟩ := hV.at (List.getElem?_eq_getElem h0)
  rw [Nat.add_zero] at c1
  have C1 := Lib.hid c1
  have HN := Lib.hid h
  clear hV hb c1 h
  have xa := Lib.hid ((Ext.refl w).alloc (Nat.le_refl _) (.cells #[.slice (some ⟨rb, ro, none⟩) ls.length cap] 26))
  have c1 := Ext.cell xa.out C1.out
  have c2 : (w.alloc (.cells #[.slice (some ⟨rb, ro, none⟩) ls.length cap] 26)).cell? ⟨w.heap.size, 0, none⟩ = some (.slice (some ⟨rb, ro, none⟩) ls.length cap) := (Row.new w _ _).cell rfl
  go_enter Try.func50, Try.ntmps50
  go_wp2_with fail
  refine (side_yes ls.length (by omega) _).mono ?_; rintro e w' ⟨rfl, rfl⟩
  go_wp2_with fail
  refine (side_no ls[0].length (by have := HN.out; omega) _).mono ?_; rintro e w' ⟨rfl, rfl⟩
  go_wp2_with fail
  go_ret
  exact ⟨rfl, xa.out⟩

/-- good, whole. -/
theorem good_any (v : Value) (ls : List (List UInt8)) (d : Bool) (hd : d = true ↔ Mat.Good ls) (w : World) (hV : BRows w v ls) :
    Calls Try.prog 50 #[v] w fun e w' => e = .returned (.bool d) ∧ Ext w w' := by
  rw [Mat.good_iff] at hd
  by_cases h1 : 1 ≤ ls.length ∧ ls.length ≤ 255
  · by_cases h2 : 1 ≤ (ls.getD 0 []).length ∧ (ls.getD 0 []).length ≤ 255
    · have h := good_sides v ls (!d) h1.1 h1.2 h2.1 h2.2 (by
        cases d with
        | true => 
          have := hd.1 rfl
          constructor
          · intro h; cases h
          · rintro ⟨r, hr, hn⟩; exact absurd (this.2.2.2.2 r hr) hn
        | false =>
          constructor
          · intro _
            refine Classical.byContradiction fun hc => ?_
            have : false = true := hd.2 ⟨h1.1, h1.2, h2.1, h2.2, fun r hr => Classical.byContradiction fun hn => hc ⟨r, hr, hn⟩⟩
            cases this
          · intro _; rfl) w hV
      rw [Bool.not_not] at h
      exact h
    · have : d = false := by
        cases d with
        | false => rfl
        | true => exact absurd ⟨(hd.1 rfl).2.2.1, (hd.1 rfl).2.2.2.1⟩ h2
      rw [this]
      exact good_two v ls h1.1 h1.2 h2 w hV
  · have : d = false := by
      cases d with
      | false => rfl
      | true => exact absurd ⟨(hd.1 rfl).1, (hd.1 rfl).2.1⟩ h1
    rw [this]
    exact good_one v ls h1 w hV
theorem good_yes (v : Value) (ls : List (List UInt8)) (n m : Nat) (h1 : 1 ≤ n) (h2 : n ≤ 255) (h3 : 1 ≤ m) (h4 : m ≤ 255) (h : Mat.Sh ls n m) (w : World) (hV : BRows w v ls) :
    Calls Try.prog 50 #[v] w fun e w' => e = .returned (.bool true) ∧ Ext w w' :=
  good_any v ls true ⟨fun _ => ⟨n, m, h1, h2, h3, h4, h⟩, fun _ => rfl⟩ w hV
theorem good_no (v : Value) (ls : List (List UInt8)) (h : ¬ Mat.Good ls) (w : World) (hV : BRows w v ls) :
    Calls Try.prog 50 #[v] w fun e w' => e = .returned (.bool false) ∧ Ext w w' :=
  good_any v ls false ⟨fun e => (Bool.noConfusion e), fun k => absurd k h⟩ w hV

/-- Square. -/
theorem square_no (v : Value) (ls : List (List UInt8)) (h : ¬ Mat.Good ls) (w : World) (hV : BRows w v ls) :
    Calls Try.prog 28 #[v] w fun e w' => e = .returned (.bool false) ∧ Ext w w' := by
  obtain ⟨a, n, cap, rfl⟩ : ∃ a n cap, v = .slice a n cap := by obtain ⟨vs, ⟨a, cap, e, _⟩, _⟩ := hV; exact ⟨_, _, _, e⟩
  have HV := Lib.hid hV
  have HN := Lib.hid h
  clear hV h
  go_enter Try.func28, Try.ntmps28
  go_wp2_with fail
  refine (good_no _ ls HN.out _ HV.out).mono ?_; rintro e w1 ⟨rfl, hx⟩
  have X := Lib.hid hx
  clear hx
  go_wp2_with fail
  go_ret
  exact ⟨rfl, X.out⟩
theorem square_good (v : Value) (ls : List (List UInt8)) (n m : Nat) (h1 : 1 ≤ n) (h2 : n ≤ 255) (h3 : 1 ≤ m) (h4 : m ≤ 255) (h : Mat.Sh ls n m) (w : World) (hV : BRows w v ls) :
    Calls Try.prog 28 #[v] w fun e w' => e = .returned (.bool (decide (n = m))) ∧ Ext w w' := by
  obtain ⟨a, n', cap, rfl⟩ : ∃ a n cap, v = .slice a n cap := by obtain ⟨vs, ⟨a, cap, e, _⟩, _⟩ := hV; exact ⟨_, _, _, e⟩
  obtain rfl := hV.len
  obtain ⟨e1, e2⟩ := h
  subst e1
  have h0 : 0 < ls.length := by omega
  have e3 := e2 ls[0] (List.getElem_mem _)
  have HV := Lib.hid hV
  have HS := Lib.hid e2
  obtain ⟨rb, ro, qa, qc, rfl, c1, hb⟩ := hV.at (List.getElem?_eq_getElem h0)
  rw [Nat.add_zero, e3] at c1
  have C1 := Lib.hid c1
  clear hV hb c1 e2 e3
  go_enter Try.func28, Try.ntmps28
  go_wp2_with fail
  refine (good_yes _ ls ls.length m h1 h2 h3 h4 ⟨rfl, HS.out⟩ _ HV.out).mono ?_; rintro e w1 ⟨rfl, hx⟩
  have c1 := Ext.cell hx C1.out
  have X := Lib.hid hx
  clear hx
  go_wp2_with fail
  go_ret
  exact ⟨ret_b (by by_cases e : ls.length = m <;> simp [e] <;> omega), X.out⟩
end Go.Proofs.Ytdmdcgcmappliaa
