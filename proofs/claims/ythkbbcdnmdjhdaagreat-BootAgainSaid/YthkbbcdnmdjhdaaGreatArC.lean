/-
  An array's Voices; slices.Clone of disks; array.New.
-/
import Derived.Test.YthkbbcdnmdjhdaaGreatArB
import Derived.Lib.SliceRun
/-! XArC: An array's Voices; slices.Clone of disks; array.New. -/
namespace Go.Proofs.YthkbbcdnmdjhdaaGreat
open Go.RowKit Dk
set_option maxRecDepth 100000
set_option maxHeartbeats 4000000
attribute [local go_sem] min_int2 max_int2 bstr_toList

theorem avoices_any (a : AA) (fp : Option Nat) (s : AS) (Y : Thing) (n : Nat) (w0 w : World) (hL : Lab w0 w (memA a fp s Y)) (hk : a.Ok s) (hA : ASnd s n) (hn : n < 900000000) :
    Calls Tryz.prog 36 #[.pointer (some ⟨a.ab, 0, none⟩)] w fun e w' => ∃ u, e = .returned u ∧ Lab w0 w' ((ownT 3 u (ivs ((s.voices (fmtB a.K a.M) a.ss.length).1.map Int.ofNat))).star (memA a fp (s.voices (fmtB a.K a.M) a.ss.length).2 Y)) := by
  have HL := Lib.hid hL
  have HK := Lib.hid (And.intro hk hA)
  obtain ⟨m, hm⟩ : ∃ m, a.ss.length = m := ⟨_, rfl⟩
  have HN := Lib.hid (aN_any a w0 w hL.left)
  rw [hm] at HN ⊢
  have hm2 : m ≤ 255 := by have := hk.n; have := hk.n255; omega
  have HM := Lib.hid hm
  obtain ⟨V, hV⟩ : ∃ V : Nat → List Nat × AS, V = s.voices (fmtB a.K a.M) := ⟨_, rfl⟩
  have HV := Lib.hid hV
  rw [← hV]
  have L0 := Lib.hid (ownT.nil 3 hL)
  clear hL hk hA hm hV
  go_enter Tryz.func36, Tryz.ntmps36
  go_wp2_with fail
  refine HN.out.mono ?_; rintro e w' ⟨rfl, rfl⟩
  go_wp2_with fail
  go_loopw [3, 9] (fun v3 v9 wr => ∃ (i : Nat) (xa : Option Addr) (xc : Nat), i ≤ m ∧ v9 = .int .i64 (i : Nat) ∧ v3 = .slice xa (V i).1.length xc ∧ Hid (Lab w0 wr ((ownT 3 (.slice xa (V i).1.length xc) (ivs ((V i).1.map Int.ofNat))).star (memA a fp (V i).2 Y)))) (fun _ v9 _ => (m - intOf v9).toNat)
  case atStart => exact ⟨0, none, 0, by omega, rfl, by rw [HV.out]; rfl, Lib.hid (by rw [HV.out]; exact L0.out)⟩
  case round =>
    obtain ⟨i, xa, xc, hi, rfl, rfl, HI⟩ := hrel
    by_cases hlt : i < m
    · have hlt' : (i : Int) < (m : Int) := by omega
      have hst : V (i + 1) = (if ((V i).2.voice i (fmtB a.K a.M i)).1.1 = true then (V i).1 ++ [i] else (V i).1, ((V i).2.voice i (fmtB a.K a.M i)).2) := by rw [HV.out]; rfl
      have hki : a.Ok (V i).2 := HK.out.1.of (by rw [HV.out]; exact AS.voices_len ..)
      have hAi : ASnd (V i).2 (n + i) := by rw [HV.out]; exact HK.out.2.voices _ i
      have hle : (V i).1.length ≤ 255 := by rw [HV.out]; exact Nat.le_trans (AS.voices_num ..) (by omega)
      obtain ⟨l, t⟩ : ∃ p : List Nat × AS, V i = p := ⟨_, rfl⟩
      obtain ⟨l, s1⟩ := l
      rw [t] at hst hki hAi hle HI ⊢
      simp only at hst hki hAi hle HI ⊢
      obtain ⟨r, hr⟩ : ∃ r, s1.voice i (fmtB a.K a.M i) = r := ⟨_, rfl⟩
      rw [hr] at hst
      have HT := Lib.hid (And.intro hst (And.intro hki (And.intro hAi hr)))
      clear t hst hki hAi hr
      go_wp2_with fail
      refine (avoice_any a fp s1 _ (n + i) i w0 _ (HI.out.ent memA_in) HT.out.2.1 HT.out.2.2.1 (by omega) (by rw [HM.out]; exact hlt)).mono ?_; rintro e w1 ⟨rfl, hL⟩
      rw [HT.out.2.2.2] at hL ⊢
      have L1 := Lib.hid (hL.ent memA_out)
      clear hL
      cases hb : r.1.1 with
      | false =>
        have HF := Lib.hid (show V (i + 1) = (l, r.2) by rw [HT.out.1, hb]; rfl)
        clear hb
        go_wp2_with fail
        exact ⟨⟨i + 1, xa, xc, by omega, by go_num, by rw [HF.out], Lib.hid (by rw [HF.out]; exact L1.out)⟩, by simp [intOf]; omega⟩
      | true =>
        have HF := Lib.hid (show V (i + 1) = (l ++ [i], r.2) by rw [HT.out.1, hb]; rfl)
        have HE := Lib.hid (show ivs (l.map Int.ofNat) ++ [.int .i64 (i : Int)] = ivs ((l ++ [i]).map Int.ofNat) by simp)
        have HLE := Lib.hid (show (ivs (l.map Int.ofNat)).length ≤ 100000 by simp; omega)
        clear hb
        go_wp2_with (at_builtin; refine list_of_wp rfl fun KK hKK => wp_lapp1 _ _ 28 3 (.int .i64 0) 8 rfl Tryz.underlying28 info_int rfl (by decide) rfl rfl rfl (by simp) L1.out rfl HLE.out fun ad c w7 hL => hKK _ _ ?_)
        rw [HE.out] at hL
        have HL7 := Lib.hid hL
        clear hL
        go_wp2_with fail
        exact ⟨⟨i + 1, ad, c, by omega, by go_num, by rw [HF.out, List.length_append]; rfl, Lib.hid (by rw [HF.out, List.length_append]; exact HL7.out)⟩, by simp [intOf]; omega⟩
    · obtain rfl : i = m := by omega
      clear hlt
      go_wp2_with fail
      go_ret
      exact ⟨_, rfl, HI.out⟩
end Go.Proofs.YthkbbcdnmdjhdaaGreat
