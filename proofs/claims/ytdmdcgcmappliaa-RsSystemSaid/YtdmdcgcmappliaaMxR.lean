/-
  The reference's Vandermonde.
-/
import Derived.Test.YtdmdcgcmappliaaRowApp
import Derived.Test.YtdmdcgcmappliaaMxG
import Derived.Test.YtdmdcgcmappliaaMxH
namespace Go.Proofs.Ytdmdcgcmappliaa
open Go.RowKit Gf
set_option maxRecDepth 100000
set_option maxHeartbeats 4000000
attribute [local go_sem] min_int2 max_int2

theorem rvand_any (n c : Nat) (h1 : 1 ≤ n) (h2 : n ≤ 255) (h3 : 1 ≤ c) (h4 : c ≤ 255) (w : World) :
    Calls Try.prog 24 #[.int .i64 n, .int .i64 c] w fun e w' => ∃ u, e = .returned u ∧ RowsOwn w' w.heap.size u (Mat.vand n c) ∧ Ext w w' := by
  have hmk := make_byt c (by omega)
  go_enter Try.func24, Try.ntmps24
  go_wp2_with fail
  go_loopw [5, 6] (fun v4 v5 wr => ∃ (i : Nat) (xa : Option Addr) (xc : Nat), i ≤ n ∧ v5 = .int .i64 (i : Nat) ∧ v4 = .slice xa i xc ∧ Hid (RowsOwn wr w.heap.size (.slice xa i xc) ((Mat.vand n c).take i)) ∧ Below w.heap.size w wr) (fun _ v5 _ => (n - intOf v5).toNat)
  case atStart => exact ⟨0, _, _, by omega, rfl, rfl, Lib.hid (by rw [List.take_zero]; exact RowsOwn.nil _ _), Ext.refl _⟩
  case round =>
    obtain ⟨i, xa, xc, hi, rfl, rfl, hR, hBr⟩ := hrel
    by_cases hlt : i < n
    · have hlt' : (i : Int) < (n : Int) := by omega
      have xa1 : Ext wr (wr.alloc (.cells (Array.replicate c (.int .u8 0)) 5)) := (Ext.refl wr).alloc (Nat.le_refl _) _
      have o1 := (AppOut.zeros wr wr.heap.size c (Nat.le_refl _) (by omega) (.slice none 0 0)).1
      rw [List.nil_append, ← vrow_zero i c] at o1
      have O1 := Lib.hid o1
      have XA1 := Lib.hid xa1
      clear o1 xa1
      go_wp2_with fail
      go_loopw [8] (fun v8 wr2 => ∃ j : Nat, j ≤ c ∧ v8 = .int .i64 (j : Nat) ∧ Hid (Own wr2 wr.heap.size 5 (.slice (some ⟨wr.heap.size, 0, none⟩) c c) (bvs (vrow i c j))) ∧ Ext wr wr2) (fun v8 _ => (c - intOf v8).toNat)
      case atStart => exact ⟨0, by omega, rfl, O1, XA1.out⟩
      case round =>
        obtain ⟨j, hj, rfl, hO, hE⟩ := hrel
        rename World => wr2
        by_cases hlt2 : j < c
        · have hlt2' : (j : Int) < (c : Int) := by omega
          have c3 := hO.out.parts.2.2.2.2.2.1 j (bv 0) (by rw [List.getElem?_map, vrow_get i c j hlt2]; rfl)
          have u3 := hO.out.parts.2.2.2.2.2.2 j
          have hst := hO.out.set j (bv (Mat.pw (UInt8.ofNat i) j))
          rw [show (bvs (vrow i c j)).set j (bv (Mat.pw (UInt8.ofNat i) j)) = bvs ((vrow i c j).set j (Mat.pw (UInt8.ofNat i) j)) from by simp [List.map_set], vrow_succ i c j hlt2] at hst
          have HST := Lib.hid hst
          have hbb := Lib.hid (Below.set hE (Nat.le_refl _) j (bv (Mat.pw (UInt8.ofNat i) j)))
          have hpw := Mat.pw_gpow (UInt8.ofNat i) j (by omega)
          have hui : (UInt8.ofNat i).toNat = i := by rw [UInt8.toNat_ofNat']; exact Nat.mod_eq_of_lt (by omega)
          rw [hui] at hpw
          have HPW := Lib.hid hpw
          have hwp : IntKind.u8.wrap (i : Int) = (i : Int) := by rw [IntKind.wrap_u8]; omega
          clear hst hpw hui
          go_wp2_with fail
          refine (rpow_any i (by omega) j _).mono ?_; rintro e w' ⟨rfl, rfl⟩
          rw [HPW.out]
          go_wp2_with fail
          exact ⟨⟨j + 1, by omega, by go_num, HST, hbb.out⟩, by simp [intOf]; omega⟩
        · obtain rfl : j = c := by omega
          have hV : vrow i j j = (List.range j).map fun k => Mat.pw (UInt8.ofNat i) k := vrow_full i j
          have HP : Hid ((Mat.vand n j).take i ++ [vrow i j j] = (Mat.vand n j).take (i + 1)) := Lib.hid (by
            rw [List.take_add_one, hV]
            unfold Mat.vand
            simp [hlt])
          have HL : Hid (((Mat.vand n j).take i).length ≤ 70000) := Lib.hid (by simp; omega)
          have W := Lib.hid (And.intro hO.out (And.intro hE (And.intro (hR.out.ext hE) (OffB.fresh (r := (Value.slice xa i xc).ownBlock) hO.out (fun q hq => hR.out.block q hq)))))
          clear hlt2 hV
          go_wp2_with (at_builtin; refine list_of_wp rfl fun K hK => wp_row1 _ _ 22 rfl Try.underlying22 rfl rfl rfl W.out.2.2.1 W.out.1.cells W.out.2.2.2 (Nat.le_trans hBr.size W.out.2.1.size) HL.out fun ad c w7 hN hB7 => hK _ _ ?_)
          rw [HP.out] at hN
          have HN := Lib.hid hN
          have hB8 := Lib.hid (Below.trans (Below.trans hBr (Below.mono W.out.2.1 hBr.size)) hB7)
          clear hN hB7
          go_wp2_with fail
          exact ⟨⟨i + 1, _, _, by omega, by go_num, rfl, HN, hB8.out⟩, by simp [intOf]; omega⟩
    · obtain rfl : i = n := by omega
      have hN := hR.out
      rw [show (Mat.vand i c).take i = Mat.vand i c from List.take_of_length_le (by simp [Mat.vand])] at hN
      have HN := Lib.hid hN
      have HF := Lib.hid hBr
      clear hN hlt hmk
      go_wp2_with fail
      go_ret
      exact ⟨_, rfl, HN.out, HF.out⟩
end Go.Proofs.Ytdmdcgcmappliaa
