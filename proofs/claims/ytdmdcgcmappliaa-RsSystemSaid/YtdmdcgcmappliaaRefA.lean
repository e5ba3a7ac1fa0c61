/-
  The reference's Copy and Unit: their rows lie apart.
-/
import Derived.Test.YtdmdcgcmappliaaApart
import Derived.Test.YtdmdcgcmappliaaMxH
namespace Go.Proofs.Ytdmdcgcmappliaa
open Go.RowKit
set_option maxRecDepth 100000
set_option maxHeartbeats 4000000
attribute [local go_sem] min_int2 max_int2

theorem rcopyA_any (v : Value) (ls : List (List UInt8)) (hl : ls.length ≤ 70000) (hr : ∀ r ∈ ls, r.length ≤ 70000) (w : World) (hV : BRows w v ls) :
    Calls Try.prog 18 #[v] w fun e w' => ∃ u, e = .returned u ∧ RA w' w.heap.size w'.heap.size u ls ∧ Ext w w' := by
  obtain ⟨a, cap, rfl⟩ := hV.form
  have HV := Lib.hid hV
  have HE := Lib.hid hr
  clear hV hr
  go_enter Try.func18, Try.ntmps18
  go_wp2_with fail
  go_loopw [3, 4] (fun v3 v4 wr => ∃ (i : Nat) (xa : Option Addr) (xc : Nat), i ≤ ls.length ∧ v4 = .int .i64 (i : Nat) ∧ v3 = .slice xa i xc ∧ Hid (RA wr w.heap.size wr.heap.size (.slice xa i xc) (ls.take i)) ∧ Below w.heap.size w wr) (fun _ v4 _ => (ls.length - intOf v4).toNat)
  case atStart => exact ⟨0, _, _, by omega, rfl, rfl, Lib.hid (by rw [List.take_zero]; exact RA.nil _ _ _), Ext.refl _⟩
  case round =>
    obtain ⟨i, xa, xc, hi, rfl, rfl, hR, hBr⟩ := hrel
    by_cases hlt : i < ls.length
    · have hlt' : (i : Int) < (ls.length : Int) := by omega
      obtain ⟨rb, ro, ra, rc, rfl, c1, hb⟩ := (HV.out.ext hBr).at (List.getElem?_eq_getElem hlt)
      obtain ⟨row, hrow⟩ : ∃ row, ls[i] = row := ⟨_, rfl⟩
      have hrl := HE.out _ (List.getElem_mem hlt)
      rw [hrow] at c1 hb hrl
      have HP : Hid (ls.take i ++ [row] = ls.take (i + 1)) := Lib.hid (by rw [List.take_add_one, List.getElem?_eq_getElem hlt, hrow]; rfl)
      have HL : Hid ((ls.take i).length ≤ 70000) := Lib.hid (by simp; omega)
      have HB := Lib.hid hb
      clear hb hrow
      go_wp2_with (first | (at_builtin; refine list_of_wp rfl fun K hK => wp_appx _ _ 34 34 5 (.int .u8 0) 1 rfl Try.underlying34 info_u8' rfl rfl (Own.nil wr wr.heap.size _) rfl (Cells.src Try.underlying34 HB.out (bvs_one _)) (by rw [bvs_len]; simp [maxLen]; omega) (by rw [bvs_len]; simp; omega) (Nat.le_refl _) row.length (by rw [bvs_len]; simp) fun ua uc w5 hu => hK _ _ ?_; rw [List.nil_append] at hu; have x5 : Ext wr w5 := Ext.grown hu.2.1 (fun k hk => by cases hk); have W := Lib.hid hu.1; have X5 := Lib.hid x5; clear hu x5 c1) | (at_builtin; refine list_of_wp rfl fun K hK => wp_rowA _ _ 22 rfl Try.underlying22 rfl rfl rfl hR.out X5.out W.out (Nat.le_refl _) hBr.size HL.out fun ad c w7 hN hB7 => hK _ _ ?_))
      rw [HP.out] at hN
      have HN := Lib.hid hN
      have hB8 := Lib.hid (Below.trans (Below.trans hBr (Below.mono X5.out hBr.size)) hB7)
      clear hN hB7
      go_wp2_with fail
      exact ⟨⟨i + 1, _, _, by omega, by go_num, rfl, HN, hB8.out⟩, by simp [intOf]; omega⟩
    · obtain rfl : i = ls.length := by omega
      have hN := hR.out
      rw [List.take_length] at hN
      have HN := Lib.hid hN
      have HF := Lib.hid hBr
      clear hN hlt
      go_wp2_with fail
      go_ret
      exact ⟨_, rfl, HN.out, HF.out⟩
theorem runitA_any (n : Nat) (h1 : 1 ≤ n) (h2 : n ≤ 255) (w : World) :
    Calls Try.prog 22 #[.int .i64 n] w fun e w' => ∃ u, e = .returned u ∧ RA w' w.heap.size w'.heap.size u (Mat.unit n) ∧ Ext w w' := by
  go_enter Try.func22, Try.ntmps22
  have hmk := make_byt n (by omega)
  go_wp2_with fail
  go_loopw [3, 4] (fun v3 v4 wr => ∃ (i : Nat) (xa : Option Addr) (xc : Nat), i ≤ n ∧ v4 = .int .i64 (i : Nat) ∧ v3 = .slice xa i xc ∧ Hid (RA wr w.heap.size wr.heap.size (.slice xa i xc) ((Mat.unit n).take i)) ∧ Below w.heap.size w wr) (fun _ v4 _ => (n - intOf v4).toNat)
  case atStart => exact ⟨0, _, _, by omega, rfl, rfl, Lib.hid (by rw [List.take_zero]; exact RA.nil _ _ _), Ext.refl _⟩
  case round =>
    obtain ⟨i, xa, xc, hi, rfl, rfl, hR, hBr⟩ := hrel
    by_cases hlt : i < n
    · have hlt' : (i : Int) < (n : Int) := by omega
      have xa1 : Ext wr (wr.alloc (.cells (Array.replicate n (.int .u8 0)) 5)) := (Ext.refl wr).alloc (Nat.le_refl _) _
      have o2 : Own (wr.alloc (.cells ((Array.replicate n (.int .u8 0)).setIfInBounds i (.int .u8 1)) 5)) wr.heap.size 5 (.slice (some ⟨wr.heap.size, 0, none⟩) n n) (bvs ((List.replicate n 0).set i 1)) := by
        have h := Own.new wr wr.heap.size 5 ((Array.replicate n (.int .u8 0)).setIfInBounds i (.int .u8 1)) (Nat.le_refl _) (by simp [maxLen]; omega)
        have e : ((Array.replicate n (Value.int .u8 0)).setIfInBounds i (.int .u8 1)).toList = bvs ((List.replicate n 0).set i 1) := by
          simp [List.map_set]; rfl
        rw [e] at h
        simpa using h
      have c3 : (wr.alloc (.cells (Array.replicate n (.int .u8 0)) 5)).cell? ⟨wr.heap.size, i, none⟩ = some (.int .u8 0) := (Row.new wr 5 _).cell (by simp [hlt])
      have u3 : (wr.alloc (.cells (Array.replicate n (.int .u8 0)) 5)).frozen? ⟨wr.heap.size, i, none⟩ = false := (Row.new wr 5 _).unfrozen i
      have x2 : Ext wr (wr.alloc (.cells ((Array.replicate n (.int .u8 0)).setIfInBounds i (.int .u8 1)) 5)) := (Ext.refl wr).alloc (Nat.le_refl _) _
      have HP : Hid ((Mat.unit n).take i ++ [(List.replicate n 0).set i 1] = (Mat.unit n).take (i + 1)) := Lib.hid (by
        rw [List.take_add_one]
        unfold Mat.unit
        simp [hlt])
      have HL : Hid (((Mat.unit n).take i).length ≤ 70000) := Lib.hid (by simp; omega)
      have W := Lib.hid (And.intro o2 x2)
      clear o2 x2 xa1
      go_wp2_with (at_builtin; refine list_of_wp rfl fun K hK => wp_rowA _ _ 22 rfl Try.underlying22 rfl rfl (by simp) hR.out W.out.2 W.out.1 (Nat.le_refl _) hBr.size HL.out fun ad c w7 hN hB7 => hK _ _ ?_)
      rw [HP.out] at hN
      have HN := Lib.hid hN
      have hB8 := Lib.hid (Below.trans (Below.trans hBr (Below.mono W.out.2 hBr.size)) hB7)
      clear hN hB7 c3 u3
      go_wp2_with fail
      exact ⟨⟨i + 1, _, _, by omega, by go_num, rfl, HN, hB8.out⟩, by simp [intOf]; omega⟩
    · obtain rfl : i = n := by omega
      have hN := hR.out
      rw [show (Mat.unit i).take i = Mat.unit i from List.take_of_length_le (by simp [Mat.unit])] at hN
      have HN := Lib.hid hN
      have HF := Lib.hid hBr
      clear hN hlt hmk
      go_wp2_with fail
      go_ret
      exact ⟨_, rfl, HN.out, HF.out⟩
end Go.Proofs.Ytdmdcgcmappliaa
