/-
  matrix.Rows.
-/
import Derived.Test.YtdmdcgcmappliaaMxH
import Derived.Test.YtdmdcgcmappliaaRowsOwn
namespace Go.Proofs.Ytdmdcgcmappliaa
open Go.RowKit
set_option maxRecDepth 100000
set_option maxHeartbeats 4000000
attribute [local go_sem] min_int2 max_int2

/-- bytes.Clone: the copy lies in a new block. -/
theorem bclone_own (v : Value) (l : List UInt8) (hl : l.length ≤ 140737488351232) (w : World) (hb : Bytes w v l) :
    Calls Try.prog 55 #[v] w fun e w' => ∃ u, e = .returned u ∧ Own w' w.heap.size 5 u (bvs l) ∧ Ext w w' := by
  obtain ⟨a, c, rfl⟩ := hb.slice
  have q := nil_bytes
  cases a with
  | none =>
    have hl0 : l = [] := by
      obtain ⟨a', cap', e, h1, h2, _⟩ := hb
      simp only [Value.slice.injEq] at e
      obtain ⟨rfl, e2, rfl⟩ := e
      have := h2 rfl
      rw [bvs_len] at h1
      exact List.length_eq_zero_iff.1 (by omega)
    subst hl0
    go_enter Try.func55, Try.ntmps55
    go_wp2
    go_ret
    exact ⟨_, rfl, Own.nil _ _ _, Ext.refl _⟩
  | some ad =>
    have HB := Lib.hid hb
    clear hb
    have o0 : Own (w.alloc (.cells #[] 5)) w.heap.size 5 (.slice (some ⟨w.heap.size, 0, none⟩) 0 0) (bvs []) := Own.new w w.heap.size 5 #[] (Nat.le_refl _) (by decide)
    have y3 : Ext w (w.alloc (.cells #[] 5)) := (Ext.refl w).alloc (Nat.le_refl _) _
    go_enter Try.func55, Try.ntmps55
    go_wp2_with (at_builtin; refine list_of_wp rfl fun K hK => wp_appx _ _ 34 34 5 (.int .u8 0) 1 rfl Try.underlying34 info_u8' rfl rfl o0 rfl (Cells.src Try.underlying34 (HB.out.ext y3) (bvs_one _)) (by rw [bvs_len, bvs_len]; simp [maxLen]; omega) (by rw [bvs_len, bvs_len]; simp; omega) y3.size l.length (by rw [bvs_len, bvs_len]; simp) fun ad4 c4 w4 ha4 => hK _ _ ?_)
    go_ret
    exact ⟨_, rfl, ha4.1, Below.grown y3 ha4.2.1 y3.size (fun k hk => by have hk' : some w.heap.size = some k := hk; injection hk' with hk'; omega)⟩

theorem slice_one (x : Value) (a : Option Addr) (n c : Nat) (e : x = .slice a n c) : ∀ u ∈ [x], u.oneCell' = true := fun u hu => by rw [List.mem_singleton.1 hu, e]; rfl
theorem rows_any (va vl : Value) (a : Mat.M) (l : List Nat) (hg : Mat.Good a) (h1 : 1 ≤ l.length) (h2 : l.length ≤ 255) (hi : ∀ i ∈ l, i < a.length) (w : World) (hA : BRows w va a) (hL : Ints w vl (l.map Int.ofNat)) :
    Calls Try.prog 25 #[va, vl] w fun e w' => ∃ u, e = .returned (.tuple #[u, .bool true]) ∧ BRows w' u (Mat.pick a l) ∧ Ext w w' := by
  obtain ⟨aa, ac, rfl⟩ := hA.form
  obtain ⟨la, lc, rfl, -, -, -⟩ := id hL
  rw [show (ivs (l.map Int.ofNat)).length = l.length by simp] at hL ⊢
  have HA := Lib.hid hA
  have HL := Lib.hid hL
  have HG := Lib.hid hg
  have HI := Lib.hid hi
  clear hA hL hg hi
  have hmk := make_cap (P := Try.prog) 26 34 (.slice none 0 0) 24 0 l.length Try.underlying26 info_bytes rfl (Nat.zero_le _) (by omega) (by omega)
  have hmk' : ∀ w, (Instr.makeSlice 26 (.int .i64 0) (.int .i64 (l.length : Int))).run Try.prog w = .ok (.slice (some ⟨w.heap.size, 0, none⟩) 0 l.length) (w.alloc (.cells (Array.replicate l.length (.slice none 0 0)) 34)) := hmk
  clear hmk
  go_enter Try.func25, Try.ntmps25
  go_wp2_with fail
  refine (good_any _ a true ⟨fun _ => HG.out, fun _ => rfl⟩ _ HA.out).mono ?_; rintro e w1 ⟨rfl, x1⟩
  have X1 := Lib.hid x1
  have HA1 := Lib.hid (HA.out.ext x1)
  have HL1 := Lib.hid (HL.out.ext x1)
  clear x1 HA HL
  go_wp2_with fail
  refine (side_yes l.length (by omega) _).mono ?_; rintro e w' ⟨rfl, rfl⟩
  go_wp2_with fail
  have x0 : Ext w1 (w1.alloc (.cells (Array.replicate l.length (.slice none 0 0)) 34)) := (Ext.refl w1).alloc (Nat.le_refl _) _
  have r0 : RowsOwn (w1.alloc (.cells (Array.replicate l.length (.slice none 0 0)) 34)) w1.heap.size (.slice (some ⟨w1.heap.size, 0, none⟩) 0 l.length) [] :=
    ⟨[], Own.mk (Nat.le_refl _) (Row.new w1 _ _) (Nat.zero_le _) (by simp) rfl (by unfold maxLen; omega), rfl, by simp⟩
  have R0 := Lib.hid r0
  clear r0 hmk'
  generalize w1.alloc (.cells (Array.replicate l.length (.slice none 0 0)) 34) = w2 at x0 R0
  go_loopw [6, 23] (fun v6 v23 wr => ∃ (i : Nat) (xa : Option Addr) (xc : Nat), i ≤ l.length ∧ v23 = .int .i64 (i : Nat) ∧ v6 = .slice xa i xc ∧ Hid (RowsOwn wr w1.heap.size (.slice xa i xc) (Mat.pick a (l.take i))) ∧ Below w1.heap.size w1 wr) (fun _ v23 _ => (l.length - intOf v23).toNat)
  case atStart => exact ⟨0, _, _, by omega, rfl, rfl, R0, x0⟩
  case round =>
    obtain ⟨i, xa, xc, hil, rfl, rfl, hR, hBr⟩ := hrel
    by_cases hlt : i < l.length
    · obtain ⟨z, hz⟩ : ∃ z, l[i]? = some z := ⟨_, List.getElem?_eq_getElem hlt⟩
      have hza : z < a.length := HI.out z (List.mem_of_getElem? hz)
      have hzc : (ivs (l.map Int.ofNat))[i]? = some (.int .i64 (z : Int)) := by simp [hz]
      obtain ⟨lb, lo, rfl, c0⟩ := (HL1.out.ext hBr).at hzc
      obtain ⟨rb, ro, ra, rc, rfl, c1, hb⟩ := (HA1.out.ext hBr).at (List.getElem?_eq_getElem hza)
      obtain ⟨row, hrow⟩ : ∃ row, a[z] = row := ⟨_, rfl⟩
      rw [hrow] at c1 hb
      have hrl : row.length ≤ 255 := by
        obtain ⟨_, _, _, g4, g5⟩ := HG.out.sides
        rw [← hrow, g5.2 _ (List.getElem_mem _)]; exact g4
      have HP : Hid (Mat.pick a (l.take i) ++ [row] = Mat.pick a (l.take (i + 1))) := Lib.hid (by
        unfold Mat.pick
        rw [List.take_add_one, hz]
        simp [hza, hrow])
      have HB := Lib.hid hb
      have q1 : (z : Int) < (a.length : Int) := by omega
      have q2 : (i : Int) < (l.length : Int) := by omega
      have q3 : 0 ≤ (z : Int) := by omega
      clear hb hz hzc hrow hza
      go_wp2_with fail
      refine (bclone_own _ row (by omega) _ HB.out).mono ?_; rintro e w5 ⟨u, rfl, hU, x5⟩
      obtain ⟨ua, uc, rfl⟩ := Bytes.slice hU.cells
      have x6 : Ext w5 (w5.alloc (.cells #[.slice ua row.length uc] 34)) := (Ext.refl w5).alloc (Nat.le_refl _) _
      have hsrc : Cells (w5.alloc (.cells #[.slice ua row.length uc] 34)) (.slice (some ⟨w5.heap.size, 0, none⟩) 1 1) [.slice ua row.length uc] := (Own.new w5 0 34 #[.slice ua row.length uc] (Nat.zero_le _) (by unfold maxLen; simp)).cells
      obtain ⟨vs, o1, o2, o3⟩ := (hR.out.ext x5).ext x6
      have hvl : vs.length = i := by rw [o2]; unfold Mat.pick; simp; omega
      have hof : OffB (Value.slice xa i xc).ownBlock (.slice ua row.length uc) row := OffB.fresh hU (fun q hq => hR.out.block q hq)
      have hu6 := hU.cells.ext x6
      have hs6 : w1.heap.size ≤ (w5.alloc (.cells #[.slice ua row.length uc] 34)).heap.size := Nat.le_trans hBr.size (Nat.le_trans x5.size x6.size)
      have hone := slice_one _ ua row.length uc rfl
      have W := Lib.hid (And.intro o1 (And.intro o2 (And.intro o3 (And.intro hvl (And.intro hof (And.intro hu6 (And.intro hs6 (And.intro hsrc hone))))))))
      have hB6 := Lib.hid (Below.trans (Below.trans hBr (Below.mono x5 hBr.size)) (Below.mono x6 (Nat.le_trans hBr.size x5.size)))
      clear c0 c1 o1 o2 o3 hvl hof hu6 hs6 hsrc hone hU
      go_wp2_with (at_builtin; refine list_of_wp rfl fun K hK => wp_appx _ _ 26 26 34 (.slice none 0 0) 24 rfl Try.underlying26 info_bytes rfl rfl W.out.1 rfl (Cells.src Try.underlying26 W.out.2.2.2.2.2.2.2.1 W.out.2.2.2.2.2.2.2.2) (by rw [W.out.2.2.2.1]; simp [maxLen]; omega) (by rw [W.out.2.2.2.1]; simp; omega) W.out.2.2.2.2.2.2.1 (i + 1) (by rw [W.out.2.2.2.1]; simp) fun ad4 c4 w7 ha4 => hK _ _ ?_)
      have hN := RowsOwn.app W.out.2.1 W.out.2.2.1 W.out.2.2.2.2.2.1 W.out.2.2.2.2.1 ha4
      rw [HP.out] at hN
      have HN := Lib.hid hN
      have hB7 := Below.grown hB6.out ha4.2.1 W.out.2.2.2.2.2.2.1 (fun k hk => W.out.1.block k hk)
      clear hN ha4
      go_wp2_with fail
      exact ⟨⟨i + 1, _, _, by omega, by go_num, rfl, HN, hB7⟩, by simp [intOf]; omega⟩
    · obtain rfl : i = l.length := by omega
      have hN := hR.out.brows
      rw [List.take_length] at hN
      have HN := Lib.hid hN
      have HF := Lib.hid (Ext.trans X1.out hBr)
      clear hN hlt
      go_wp2_with fail
      go_ret2
      exact ⟨_, rfl, HN.out, HF.out⟩
end Go.Proofs.Ytdmdcgcmappliaa
