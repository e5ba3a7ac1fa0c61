/-
  matrix: side, blank, Unit, bytes.Clone, clone.
-/
import Derived.Test.YtdmdcgcmappliaaMxA
import Derived.Test.YtdmdcgcmappliaaMatLaws
import Derived.Deep.RegionLaw
import Derived.Deep.QuietTactic
import Derived.BigQuiet
import Derived.Lib.SliceRun
namespace Go.Proofs.Ytdmdcgcmappliaa
open Go.RowKit
set_option maxRecDepth 100000
set_option maxHeartbeats 4000000
attribute [local go_sem] min_int2 max_int2

theorem side_yes (n : Int) (h : 1 ≤ n ∧ n ≤ 255) (w : World) : Calls Try.prog 52 #[.int .i64 n] w fun e w' => e = .returned (.bool true) ∧ w = w' := by
  obtain ⟨h1, h2⟩ := h
  go_enter Try.func52, Try.ntmps52
  go_wp2
  go_ret
  exact ⟨rfl, rfl⟩
theorem side_no (n : Int) (h : ¬ (1 ≤ n ∧ n ≤ 255)) (w : World) : Calls Try.prog 52 #[.int .i64 n] w fun e w' => e = .returned (.bool false) ∧ w = w' := by
  have key : n < 1 ∨ (1 ≤ n ∧ 255 < n) := by omega
  clear h
  rcases key with h1 | ⟨h1, h2⟩
  all_goals
    go_enter Try.func52, Try.ntmps52
    go_wp2
    go_ret
    first
      | exact ⟨rfl, rfl⟩
      | exact ⟨ret_b (decide_eq_false (by omega)), rfl⟩

theorem nil_bytes : ∀ (w : World) (a : Option Addr) (n c n' c' : Nat), (binOp .eql 34 (.slice a n c) (.slice none n' c')).run Try.prog w = .ok (.bool a.isNone) w := fun w a n c n' c' => Lib.run_eql_slice_nil w _ _ a n c n' c' Try.underlying34
theorem bclone_any (v : Value) (l : List UInt8) (hl : l.length ≤ 140737488351232) (w : World) (hb : Bytes w v l) :
    Calls Try.prog 55 #[v] w fun e w' => ∃ u, e = .returned u ∧ Bytes w' u l ∧ Ext w w' := by
  obtain ⟨a, c, rfl⟩ := hb.slice
  have q := nil_bytes
  cases a with
  | none =>
    have hl0 : l = [] := by
      obtain ⟨a', cap', e, h1, h2, _⟩ := hb
      simp only [Value.slice.injEq] at e
      obtain ⟨rfl, e2, rfl⟩ := e
      have := h2 rfl
      rw [bvs_len] at h1
      exact List.length_eq_zero_iff.1 (by omega)
    subst hl0
    go_enter Try.func55, Try.ntmps55
    go_wp2
    go_ret
    exact ⟨_, rfl, Cells.nil _, Ext.refl _⟩
  | some ad =>
    have HB := Lib.hid hb
    clear hb
    have o0 : Own (w.alloc (.cells #[] 5)) w.heap.size 5 (.slice (some ⟨w.heap.size, 0, none⟩) 0 0) (bvs []) := Own.new w w.heap.size 5 #[] (Nat.le_refl _) (by decide)
    have y3 : Ext w (w.alloc (.cells #[] 5)) := (Ext.refl w).alloc (Nat.le_refl _) _
    go_enter Try.func55, Try.ntmps55
    go_wp2_with (at_builtin; refine list_of_wp rfl fun K hK => wp_appx _ _ 34 34 5 (.int .u8 0) 1 rfl Try.underlying34 info_u8' rfl rfl o0 rfl (Cells.src Try.underlying34 (HB.out.ext y3) (bvs_one _)) (by rw [bvs_len, bvs_len]; simp [maxLen]; omega) (by rw [bvs_len, bvs_len]; simp; omega) y3.size l.length (by rw [bvs_len, bvs_len]; simp) fun ad4 c4 w4 ha4 => hK _ _ ?_)
    go_ret
    exact ⟨_, rfl, ha4.1.cells, Below.grown y3 ha4.2.1 y3.size (fun k hk => by have hk' : some w.heap.size = some k := hk; injection hk' with hk'; omega)⟩

theorem make_mat (n : Nat) (hn : n ≤ 70000) (w : World) : (Instr.makeSlice 26 (.int .i64 (n : Int)) (.int .i64 (n : Int))).run Try.prog w = .ok (.slice (some ⟨w.heap.size, 0, none⟩) n n) (w.alloc (.cells (Array.replicate n (.slice none 0 0)) 34)) :=
  make_row (P := Try.prog) 26 34 (.slice none 0 0) 24 n Try.underlying26 info_bytes rfl (by omega) (by omega) w
theorem make_byt (n : Nat) (hn : n ≤ 70000) (w : World) : (Instr.makeSlice 34 (.int .i64 (n : Int)) (.int .i64 (n : Int))).run Try.prog w = .ok (.slice (some ⟨w.heap.size, 0, none⟩) n n) (w.alloc (.cells (Array.replicate n (.int .u8 0)) 5)) :=
  make_row (P := Try.prog) 34 5 (.int .u8 0) 1 n Try.underlying34 info_u8' rfl (by omega) (by omega) w
theorem zeros_new (w : World) (n : Nat) : Bytes (w.alloc (.cells (Array.replicate n (.int .u8 0)) 5)) (.slice (some ⟨w.heap.size, 0, none⟩) n n) (List.replicate n 0) := by
  refine ⟨some ⟨w.heap.size, 0, none⟩, n, by rw [bvs_len]; simp, by rw [bvs_len]; simp, (fun h => by cases h), fun j u hu => ⟨_, rfl, ?_⟩⟩
  rw [Addr.add_lit, Nat.zero_add]
  refine (Row.new w 5 _).cell ?_
  have e : bvs (List.replicate n 0) = List.replicate n (Value.int .u8 0) := by
    show List.map bv _ = _
    rw [List.map_replicate]; rfl
  rw [e, List.getElem?_replicate] at hu
  rw [Array.getElem?_replicate]; exact hu

/-- A new row of noughts in the place of an empty one. -/
theorem AppOut.zeros (w : World) (B c : Nat) (hB : B ≤ w.heap.size) (hc : c ≤ 70000) (v : Value) : AppOut w B 5 v (bvs ([] ++ List.replicate c 0)) (.slice (some ⟨w.heap.size, 0, none⟩) c c) (w.alloc (.cells (Array.replicate c (.int .u8 0)) 5)) := by
  have e : bvs (List.replicate c 0) = List.replicate c (Value.int .u8 0) := by
    show List.map bv _ = _
    rw [List.map_replicate]; rfl
  refine ⟨?_, ⟨rfl, rfl, rfl, by simp, fun k hk _ => Below.heap_alloc w _ k hk⟩, .inr ⟨_, rfl, Nat.le_refl _⟩⟩
  have h := Own.mk (B := B) (g := w.heap.size) (cap := c) (e := 5) (cs := List.replicate c (Value.int .u8 0)) (cur := Array.replicate c (.int .u8 0)) hB (Row.new w _ _) (by simp) (by simp) (by simp) (by simp [maxLen]; omega)
  rw [List.nil_append, e]
  simpa using h

theorem blank_any (r c : Nat) (hr : r ≤ 70000) (hc : c ≤ 70000) (w : World) :
    Calls Try.prog 51 #[.int .i64 r, .int .i64 c] w fun e w' => ∃ g vs, e = .returned (.slice (some ⟨g, 0, none⟩) r r) ∧ ORows w' w.heap.size g r vs (List.replicate r (List.replicate c 0)) ∧ Ext w w' := by
  have hm1 := make_mat r hr
  have hm2 := make_byt c hc
  go_enter Try.func51, Try.ntmps51
  go_wp2_with fail
  have hO := Lib.hid (ORows.start w w.heap.size r (Nat.le_refl _))
  have hB := (Ext.refl w).alloc (Nat.le_refl _) (.cells (Array.replicate r (.slice none 0 0)) 34)
  generalize hw1 : w.alloc (.cells (Array.replicate r (.slice none 0 0)) 34) = w1 at hO hB ⊢
  clear hw1 hm1
  go_loopw [11] (fun v6 wr => ∃ (i : Nat) (vs : List Value) (ls : List (List UInt8)), i ≤ r ∧ v6 = .int .i64 (i : Nat) ∧ Hid (ORows wr w.heap.size w.heap.size r vs ls) ∧ Hid (∀ j, j < r → ls[j]? = some (if j < i then List.replicate c 0 else [])) ∧ Below w.heap.size w wr) (fun v6 _ => (r - intOf v6).toNat)
  case atStart => exact ⟨0, _, _, by omega, rfl, hO, Lib.hid fun j h => by rw [List.getElem?_replicate, if_pos h, if_neg (by omega)], hB⟩
  case round =>
    obtain ⟨i, vs, ls, hi, rfl, hR, hJ, hBr⟩ := hrel
    by_cases hlt : i < r
    · have u1 := hR.out.row.unfrozen i
      have hiv : i < vs.length := by have := hR.out.vlen; omega
      have c1 := hR.out.row.cell (i := i) (v := vs[i]) (by simp [hiv])
      have hlt' : (i : Int) < (r : Int) := by omega
      have xa : Ext wr (wr.alloc (.cells (Array.replicate c (.int .u8 0)) 5)) := (Ext.refl wr).alloc (Nat.le_refl _) _
      have c2 := xa.cell c1
      have u2 := xa.unfrozen c1 u1
      have hl0 : ls[i]? = some [] := by rw [hJ.out i hlt, if_neg (by omega)]
      have hst := Lib.hid (hR.out.step (x := List.replicate c 0) (List.getElem?_eq_getElem hiv) hl0 (AppOut.zeros wr w.heap.size c hBr.size hc _))
      have hBw := Below.set (Ext.trans hBr xa) (Nat.le_refl w.heap.size) i (.slice (some ⟨wr.heap.size, 0, none⟩) c c)
      have hil : i < ls.length := by have := hR.out.llen; omega
      clear c1 u1 hl0
      go_wp2_with fail
      refine ⟨⟨i + 1, _, _, by omega, by go_num, hst, Lib.hid fun j hj => ?_, hBw⟩, by simp [intOf]; omega⟩
      rw [List.getElem?_set]
      by_cases e : i = j
      · rw [if_pos e, if_pos hil, if_pos (by omega)]; rfl
      · rw [if_neg e, hJ.out j hj]
        by_cases e2 : j < i
        · rw [if_pos e2, if_pos (by omega)]
        · rw [if_neg e2, if_neg (by omega)]
    · obtain rfl : i = r := by omega
      have hle : ls = List.replicate i (List.replicate c 0) := by
        have hll := hR.out.llen
        apply List.ext_getElem?
        intro j
        by_cases hj : j < i
        · rw [hJ.out j hj, List.getElem?_replicate, if_pos hj, if_pos hj]
        · rw [List.getElem?_eq_none (by omega), List.getElem?_eq_none (by simp; omega)]
      have hR2 := hR.out
      rw [hle] at hR2
      have hR3 := Lib.hid hR2
      clear hR2 hle hJ hR hlt
      go_wp2_with fail
      go_ret
      exact ⟨_, _, rfl, hR3.out, hBr⟩
end Go.Proofs.Ytdmdcgcmappliaa
