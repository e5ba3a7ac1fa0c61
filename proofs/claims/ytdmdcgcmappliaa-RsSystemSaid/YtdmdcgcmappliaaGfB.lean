/-
  gf.New: the table that is made holds all powers of two and all logarithms.
-/
import Derived.Test.YtdmdcgcmappliaaGfA
namespace Go.Proofs.Ytdmdcgcmappliaa
open Go.RowKit Gf

theorem info_u8 : (Try.prog.info? 5).map (fun i => (i.zero, i.size, i.bytes)) = some (some (.int .u8 0), 1, 1) := by kernel_rfl
theorem info_int : (Try.prog.info? 3).map (fun i => (i.zero, i.size, i.bytes)) = some (some (.int .i64 0), 1, 8) := by kernel_rfl

/-- The row of powers when n are known; the row of logarithms. -/
def expA (n : Nat) : Array Value := (Array.range 255).map fun i => .int .u8 ((if i < n then ex i else 0 : Nat) : Int)
def lgN : Nat → Nat → Nat
  | 0, _ => 0
  | n + 1, a => if a = ex n then n else lgN n a
def lgA (n : Nat) : Array Value := (Array.range 256).map fun a => .int .i64 ((lgN n a : Nat) : Int)

/-- A table lies at block b. -/
def TableAt (w : World) (b : Nat) : Prop :=
  ∃ be bl, Row w b 100 #[.slice (some ⟨be, 0, none⟩) 255 255, .slice (some ⟨bl, 0, none⟩) 256 256] ∧ Row w be 5 (expA 255) ∧ Row w bl 3 (lgA 255)
theorem TableAt.ext {w w' : World} {b : Nat} (h : TableAt w b) (hx : Ext w w') : TableAt w' b := by
  obtain ⟨be, bl, h1, h2, h3⟩ := h
  exact ⟨be, bl, h1.ext hx, h2.ext hx, h3.ext hx⟩

theorem expA_get (n i : Nat) (h : i < 255) : (expA n)[i]? = some (.int .u8 ((if i < n then ex i else 0 : Nat) : Int)) := by simp [expA, h]
theorem lgA_get (n i : Nat) (h : i < 256) : (lgA n)[i]? = some (.int .i64 ((lgN n i : Nat) : Int)) := by simp [lgA, h]
theorem expA_zero : expA 0 = Array.replicate 255 (.int .u8 0) := by
  apply Array.ext
  · simp [expA]
  · intro i h1 h2; simp [expA]
theorem lgA_zero : lgA 0 = Array.replicate 256 (.int .i64 0) := by
  apply Array.ext
  · simp [lgA]
  · intro i h1 h2; simp [lgA, lgN]
theorem expA_size (n : Nat) : (expA n).size = 255 := by simp [expA]
theorem lgA_size (n : Nat) : (lgA n).size = 256 := by simp [lgA]
theorem expA_set (n : Nat) : (expA n).setIfInBounds n (.int .u8 ((ex n : Nat) : Int)) = expA (n + 1) := by
  apply Array.ext_getElem?
  intro i
  rw [Array.getElem?_setIfInBounds, expA_size]
  by_cases hi : i < 255
  · rw [expA_get n i hi, expA_get (n + 1) i hi]
    by_cases e : n = i
    · subst e; simp [hi]
    · rw [if_neg e]
      by_cases l : i < n
      · rw [if_pos l, if_pos (by omega)]
      · rw [if_neg l, if_neg (by omega)]
  · rw [Array.getElem?_eq_none (by rw [expA_size]; omega), Array.getElem?_eq_none (by rw [expA_size]; omega)]
    simp; omega
theorem lgA_set (n : Nat) : (lgA n).setIfInBounds (ex n) (.int .i64 (n : Int)) = lgA (n + 1) := by
  apply Array.ext_getElem?
  intro i
  rw [Array.getElem?_setIfInBounds, lgA_size]
  by_cases hi : i < 256
  · rw [lgA_get n i hi, lgA_get (n + 1) i hi]
    unfold lgN
    by_cases e : ex n = i
    · rw [if_pos e, if_pos (by omega), if_pos e.symm]
    · rw [if_neg e, if_neg (fun h => e h.symm)]
      cases n <;> rfl
  · rw [Array.getElem?_eq_none (by rw [lgA_size]; omega), Array.getElem?_eq_none (by rw [lgA_size]; omega)]
    simp; omega
theorem lgN_eq : ∀ n a, n ≤ 255 → a < 256 → lgN n a = if a ≠ 0 ∧ lg a < n then lg a else 0
  | 0, a, _, _ => by simp [lgN]
  | n + 1, a, h, ha => by
    unfold lgN
    by_cases e : a = ex n
    · have := lg_ex n
      rw [Nat.mod_eq_of_lt (by omega)] at this
      have hp := ex_pos n
      rw [if_pos e, e, this, if_pos ⟨by omega, by omega⟩]
    · rw [if_neg e, lgN_eq n a (by omega) ha]
      by_cases z : a = 0
      · simp [z]
      · have hl : lg a ≠ n := fun h' => e (by rw [← h', ex_lg a ha z])
        by_cases l : lg a < n
        · rw [if_pos ⟨z, l⟩, if_pos ⟨z, by omega⟩]
        · rw [if_neg (fun h => l h.2), if_neg (fun h => by omega)]
theorem lgN_255 (a : Nat) (h : a < 256) : lgN 255 a = lg a := by
  rw [lgN_eq 255 a (by omega) h]
  by_cases z : a = 0
  · subst z; rfl
  · rw [if_pos ⟨z, lg_lt a h⟩]

set_option maxHeartbeats 800000 in
set_option maxRecDepth 100000 in
theorem new_any (w : World) :
    Calls Try.prog 45 #[] w fun e w' => ∃ b, w.heap.size ≤ b ∧ e = .returned (.pointer (some ⟨b, 0, none⟩)) ∧ TableAt w' b ∧ Ext w w' := by
  have hm1 : ∀ w, (Instr.makeSlice 34 (.int .i64 255) (.int .i64 255)).run Try.prog w = .ok (.slice (some ⟨w.heap.size, 0, none⟩) 255 255) (w.alloc (.cells (expA 0) 5)) := by
    rw [expA_zero]; exact make_row (P := Try.prog) 34 5 (.int .u8 0) 1 255 Try.underlying34 info_u8 rfl (by decide) (by decide)
  have hm2 : ∀ w, (Instr.makeSlice 43 (.int .i64 256) (.int .i64 256)).run Try.prog w = .ok (.slice (some ⟨w.heap.size, 0, none⟩) 256 256) (w.alloc (.cells (lgA 0) 3)) := by
    rw [lgA_zero]; exact make_row (P := Try.prog) 43 3 (.int .i64 0) 8 256 Try.underlying43 info_int rfl (by decide) (by decide)
  go_enter Try.func45, Try.ntmps45
  go_wp2
  go_region
  all_goals
    go_wp2
    go_loopw [2, 8] (fun v2 v8 wr => ∃ n be bl : Nat, n ≤ 255 ∧ w.heap.size ≤ be ∧ w.heap.size ≤ bl ∧ be < w.heap.size + 2 ∧ bl < w.heap.size + 2 ∧ be ≠ bl ∧ Hid (Row wr (w.heap.size + 2) 100 #[.slice (some ⟨be, 0, none⟩) 255 255, .slice (some ⟨bl, 0, none⟩) 256 256]) ∧ Hid (Row wr be 5 (expA n)) ∧ Hid (Row wr bl 3 (lgA n)) ∧ Below w.heap.size w wr ∧ v2 = .int .i64 (ex n : Nat) ∧ v8 = .int .i64 n) (fun _ v8 _ => (255 - intOf v8).toNat)
    case atStart =>
      refine ⟨0, ?_⟩
      first
        | exact ⟨w.heap.size, w.heap.size + 1, by omega, by omega, by omega, by omega, by omega, by omega, (Row.new' _ _ _ (by simp)).drew, ((Row.new' w _ _ rfl).alloc _).alloc _, (Row.new' _ _ _ (by simp)).alloc _, by go_grown, by rfl, by rfl⟩
        | exact ⟨w.heap.size + 1, w.heap.size, by omega, by omega, by omega, by omega, by omega, by omega, (Row.new' _ _ _ (by simp)).drew, (Row.new' _ _ _ (by simp)).alloc _, ((Row.new' w _ _ rfl).alloc _).alloc _, by go_grown, by rfl, by rfl⟩
    case round =>
      obtain ⟨n, be, bl, hn, h1, h2, h3, h4, h5, R0, R1, R2, hB, rfl, rfl⟩ := hrel
      have hx := ex_lt n
      by_cases hlt : n < 255
      · have c0 := R0.out.cell (i := 0) rfl
        have c1 := R0.out.cell (i := 1) rfl
        have c2 := R1.out.cell (expA_get n n hlt)
        have c3 := R2.out.cell (lgA_get n (ex n) hx)
        have u2 := R1.out.unfrozen n
        have u3 := R2.out.unfrozen (ex n)
        have hl1 : (n : Int) < 255 := by omega
        have hl2 : (ex n : Int) < 256 := by omega
        go_wp2
        go_region
        all_goals
          go_wp2_with (go_at_call 67; refine (double_any (ex n) hx _).mono ?_; rintro e w' ⟨rfl, rfl⟩)
          refine ⟨⟨n + 1, be, bl, by omega, h1, h2, h3, h4, h5, ((R0.out.set_ne (by simp; omega) _).set_ne (by simp; omega) _).drew, ?_, ?_, by go_grown, by rw [ex_succ], by go_num⟩, by simp [intOf]; omega⟩
          · rw [← expA_set]
            first
              | exact ((R1.out.set n _).set_ne (fun h => h5 h.symm) _).drew
              | exact ((R1.out.set_ne (fun h => h5 h.symm) _).set n _).drew
          · rw [← lgA_set]
            first
              | exact ((R2.out.set_ne (fun h => h5 h) _).set (ex n) _).drew
              | exact ((R2.out.set (ex n) _).set_ne (fun h => h5 h) _).drew
      · obtain rfl : n = 255 := by omega
        go_wp2
        go_ret
        exact ⟨_, by omega, rfl, ⟨be, bl, R0.out, R1.out, R2.out⟩, hB⟩
end Go.Proofs.Ytdmdcgcmappliaa
