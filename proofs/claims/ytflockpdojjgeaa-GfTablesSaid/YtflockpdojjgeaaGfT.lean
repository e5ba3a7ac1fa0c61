/-
  The statement GfTables by its walk.
-/
import Derived.Test.YtflockpdojjgeaaGfL
namespace Go.Proofs.Ytflockpdojjgeaa
open Go.RowKit Gf
set_option maxRecDepth 100000
set_option maxHeartbeats 2000000
attribute [local go_sem] min_int2 max_int2

theorem info_bool : (Try.prog.info? 4).map (fun i => (i.zero, i.size, i.bytes)) = some (some (.bool false), 1, 1) := by kernel_rfl
/-- Which numbers have been seen when n powers are known. -/
def seenA (n : Nat) : Array Value := (Array.range 256).map fun y => .bool (decide (y ≠ 0 ∧ lg y < n))
theorem seenA_size (n : Nat) : (seenA n).size = 256 := by simp [seenA]
theorem seenA_get (n i : Nat) (h : i < 256) : (seenA n)[i]? = some (.bool (decide (i ≠ 0 ∧ lg i < n))) := by simp [seenA, h]
theorem seenA_zero : seenA 0 = Array.replicate 256 (.bool false) := by
  apply Array.ext_getElem?
  intro i
  by_cases h : i < 256
  · rw [seenA_get 0 i h]; simp [h]
  · rw [Array.getElem?_eq_none (by rw [seenA_size]; omega), Array.getElem?_eq_none (by simp; omega)]
theorem seenA_set (n : Nat) (hn : n < 255) : (seenA n).setIfInBounds (ex n) (.bool true) = seenA (n + 1) := by
  apply Array.ext_getElem?
  intro i
  rw [Array.getElem?_setIfInBounds, seenA_size]
  by_cases h : i < 256
  · rw [seenA_get n i h, seenA_get (n + 1) i h]
    have hl := lg_ex n
    rw [Nat.mod_eq_of_lt hn] at hl
    have hp := ex_pos n
    by_cases e : ex n = i
    · subst e
      rw [if_pos rfl, if_pos h, decide_eq_true (⟨by omega, by omega⟩ : ex n ≠ 0 ∧ lg (ex n) < n + 1)]
    · rw [if_neg e]
      congr 2
      apply decide_eq_decide.2
      constructor
      · rintro ⟨h1, h2⟩; exact ⟨h1, by omega⟩
      · rintro ⟨h1, h2⟩
        refine ⟨h1, ?_⟩
        have : lg i ≠ n := fun h' => e (by rw [← h', ex_lg i h h1])
        omega
  · rw [Array.getElem?_eq_none (by rw [seenA_size]; omega), Array.getElem?_eq_none (by rw [seenA_size]; omega)]
    have := ex_lt n
    simp; omega
theorem pow_255 (A : Nat) (a0 : A ≠ 0) : gpow A 255 = 1 := by
  rw [gpow_pos A 255 (by decide) a0]
  have : ((255 : Int) % 255).toNat = 0 := by decide
  rw [this]; rfl
theorem pow_254 (A : Nat) (ha : A < 256) (a0 : A ≠ 0) : gpow A 254 = ginv A := by
  rw [gpow_pos A 254 (by decide) a0]
  have h : ((254 : Int) % 255).toNat = 254 := by decide
  have hl := lg_lt A ha
  rw [h, ← ex_mod]
  unfold ginv
  rw [← ex_mod (255 - lg A)]
  congr 1
  omega
theorem exI_255 (A : Nat) (ha : A < 256) : exI (255 - (lg A : Int)) = ginv A := by
  have hl := lg_lt A ha
  rw [show (255 : Int) - (lg A : Int) = ((255 - lg A : Nat) : Int) by omega, exI_nat]; rfl

theorem gfTables_nat (w : World) (A : Nat) (ha : A < 256) :
    Calls Try.prog 11 #[.int .u8 A] w fun e w' => e = .returned (.bool true) ∧ Below w.heap.size w w' := by
  have hm1 : ∀ w, (Instr.makeSlice 50 (.int .i64 256) (.int .i64 256)).run Try.prog w = .ok (.slice (some ⟨w.heap.size, 0, none⟩) 256 256) (w.alloc (.cells (seenA 0) 4)) := by
    rw [seenA_zero]; exact make_row (P := Try.prog) 50 4 (.bool false) 1 256 Try.underlying50 info_bool rfl (by decide) (by decide)
  go_enter Try.func11, Try.ntmps11
  go_wp2_with fail
  refine (gfawake_any _).mono ?_; rintro e w1 ⟨rfl, hx1⟩
  go_wp2_with fail
  refine (new_any _).mono ?_; rintro e w2 ⟨t, ht, rfl, hT, hx⟩
  have hx2 := hx1.trans hx
  have hh := Lib.hid hT
  have hg : w.heap.size ≤ w2.heap.size := hx2.size
  clear hT hx1 hx ht
  go_wp2_with fail
  go_loopw [5] (fun v5 wr => ∃ n : Nat, n ≤ 255 ∧ Hid (Row wr w2.heap.size 4 (seenA n)) ∧ Hid (TableAt wr t) ∧ Below w2.heap.size w2 wr ∧ v5 = .int .i64 n) (fun v5 _ => (255 - intOf v5).toNat)
  case atStart => exact ⟨0, by omega, Row.new _ _ _, hh.out.ext ((Ext.refl w2).alloc (Nat.le_refl _) _), (Ext.refl w2).alloc (Nat.le_refl _) _, rfl⟩
  case round =>
    obtain ⟨n, hn, hR, hTr, hB, rfl⟩ := hrel
    have l1 := ex_lt n
    have l2 := ex_pos n
    by_cases hlt : n < 255
    · have hl := lg_ex n
      rw [Nat.mod_eq_of_lt hlt] at hl
      have c1 := hR.out.cell (seenA_get n (ex n) l1)
      rw [decide_eq_false (fun h => by have := h.2; omega : ¬ (ex n ≠ 0 ∧ lg (ex n) < n))] at c1
      have u1 := hR.out.unfrozen (ex n)
      have k1 : 0 < ((ex n : Nat) : Int) := by omega
      have k2 : ((ex n : Nat) : Int) < 256 := by omega
      have k3 : (n : Int) < 255 := by omega
      have e1 := exI_nat n
      have hs := Lib.hid (seenA_set n hlt)
      have hTe : Hid (TableAt wr t → TableAt (wr.setCell ⟨w2.heap.size, ex n, none⟩ (.bool true)) t) := by
        rintro ⟨be, bl, h1, h2, h3⟩
        have r1 := hh.out
        obtain ⟨be', bl', g1, g2, g3⟩ := r1
        have g1' := g1.below hB g1.lt
        have q := g1'.symm.trans h1
        simp only [Option.some.injEq, Obj.cells.injEq, Array.mk.injEq, List.cons.injEq, Value.slice.injEq, Addr.mk.injEq, and_true] at q
        obtain ⟨rfl, rfl⟩ := q
        have n1 := g1.lt
        have n2 := g2.lt
        have n3 := g3.lt
        exact ⟨be', bl', h1.set_ne (by simp; omega) _, h2.set_ne (by simp; omega) _, h3.set_ne (by simp; omega) _⟩
      go_wp2_with fail
      refine (exp_any t n _ hTr.out).mono ?_; rintro e w' ⟨rfl, rfl⟩
      rw [e1]
      clear e1
      go_wp2_with fail
      refine (log_any t (ex n) l1 (by omega) _ hTr.out).mono ?_; rintro e w' ⟨rfl, rfl⟩
      go_wp2_with fail
      refine ⟨⟨n + 1, by omega, ?_, hTe.out hTr.out, hB.setCell (p := ⟨w2.heap.size, ex n, none⟩) (Nat.le_refl _) _, by go_num⟩, by simp [intOf]; omega⟩
      rw [← hs.out]
      exact hR.out.set (ex n) _
    · obtain rfl : n = 255 := by omega
      have hfin : Below w.heap.size w wr := hx2.trans hB
      by_cases a0 : A = 0
      · subst a0
        go_wp2
        go_ret
        exact ⟨rfl, hfin⟩
      · have ap : 0 < (A : Int) := by omega
        have f1 := pow_255 A a0
        have f2 := pow_254 A ha a0
        have f3 := exI_255 A ha
        have f4 := gmul_ginv A ha a0
        have hgl := ginv_lt A
        have hla := lg_lt A ha
        go_wp2_with fail
        refine (log_any t A ha a0 _ hTr.out).mono ?_; rintro e w' ⟨rfl, rfl⟩
        go_wp2_with fail
        refine (inv_any t A ha a0 _ hTr.out).mono ?_; rintro e w' ⟨rfl, rfl⟩
        go_wp2_with (first | (go_at_call 31; refine (tmul_int t _ _ (by omega) (by omega) _ hTr.out).mono ?_; rintro e w' ⟨rfl, rfl⟩) | (go_at_call 26; refine (tpow_int t _ _ (by omega) _ hTr.out).mono ?_; rintro e w' ⟨rfl, rfl⟩) | (go_at_call 27; refine (exp_any t _ _ hTr.out).mono ?_; rintro e w' ⟨rfl, rfl⟩))
        go_ret
        exact ⟨rfl, hfin⟩
theorem gfTables_walk (w : World) (a : UInt8) :
    Calls Try.prog 11 #[bv a] w fun e w' => e = .returned (.bool true) ∧ Below w.heap.size w w' :=
  gfTables_nat w a.toNat (u8lt a)
end Go.Proofs.Ytflockpdojjgeaa
