/-
  matrix.Invert of what is not square; matrix.Systematic; matrix.Same.
-/
import Derived.Test.YtdmdcgcmappliaaMxI
import Derived.Test.YtdmdcgcmappliaaMxG
namespace Go.Proofs.Ytdmdcgcmappliaa
open Go.RowKit Gf
set_option maxRecDepth 100000
set_option maxHeartbeats 4000000
attribute [local go_sem] min_int2 max_int2

theorem invert_no (v : Value) (a : Mat.M) (h : ¬ ∃ n, 1 ≤ n ∧ n ≤ 255 ∧ Mat.Sh a n n) (w : World) (hA : BRows w v a) :
    Calls Try.prog 19 #[v] w fun e w' => e = .returned (.tuple #[.slice none 0 0, .bool false]) ∧ Ext w w' := by
  obtain ⟨aa, ac, rfl⟩ := hA.form
  have HA := Lib.hid hA
  have sq : Calls Try.prog 28 #[.slice aa a.length ac] w fun e w' => e = .returned (.bool false) ∧ Ext w w' := by
    by_cases hg : Mat.Good a
    · obtain ⟨n, m, h1, h2, h3, h4, h5⟩ := hg
      have hnm : n ≠ m := fun e => h ⟨n, h1, h2, e ▸ h5⟩
      have := square_good _ a n m h1 h2 h3 h4 h5 w hA
      rw [decide_eq_false hnm] at this
      exact this
    · exact square_no _ a hg w hA
  have SQ := Lib.hid sq
  clear sq hA h
  go_enter Try.func19, Try.ntmps19
  go_wp2_with fail
  refine SQ.out.mono ?_; rintro e w1 ⟨rfl, x1⟩
  have X1 := Lib.hid x1
  clear x1
  go_wp2_with fail
  go_ret2
  exact ⟨rfl, X1.out⟩

theorem BRows.take {w : World} {a : Option Addr} {n cap : Nat} {ls : List (List UInt8)} (h : BRows w (.slice a n cap) ls) (m : Nat) (hm : m ≤ n) : BRows w (.slice a m cap) (ls.take m) := by
  obtain ⟨vs, h1, h2, h3⟩ := h
  refine ⟨vs.take m, h1.take m hm, by simp [h2], fun i v l hv hl => ?_⟩
  rw [List.getElem?_take] at hv hl
  split at hv
  · rename_i hi
    rw [if_pos hi] at hl
    exact h3 i v l hv hl
  · cases hv

theorem sys_any (k m : Nat) (h1 : 1 ≤ k) (h2 : 1 ≤ m) (h3 : k + m ≤ 255) (w : World) :
    Calls Try.prog 27 #[.int .i64 k, .int .i64 m] w fun e w' => ∃ x g, Mat.sys k m = some x ∧ e = .returned (.tuple #[.slice (some ⟨g, 0, none⟩) (k + m : Nat) (k + m : Nat), .bool true]) ∧ MR w' w.heap.size g x ∧ Ext w w' := by
  obtain ⟨top, ht, hs⟩ := Mat.sys_some k m (by omega)
  obtain ⟨q, hq⟩ : ∃ q, k + m = q := ⟨_, rfl⟩
  have hqi : (k : Int) + (m : Int) = (q : Int) := by omega
  have HS := Lib.hid hs
  have HT := Lib.hid ht
  rw [hq]
  have HQ := Lib.hid hq
  have b1 : k < q := by omega
  have b2 : q ≤ 255 := by omega
  have s1 := Mat.vand_take k m k
  rw [hq] at s1
  have S1 := Lib.hid s1
  clear hs ht hq s1
  go_enter Try.func27, Try.ntmps27
  go_wp2_with fail
  refine (vand_any q k (by omega) b2 h1 (by omega) _).mono ?_; rintro e w1 ⟨g, vs, rfl, hO, x1⟩
  have HO := Lib.hid hO.mr
  have X1 := Lib.hid x1
  clear hO x1
  go_wp2_with fail
  have hB1 := (HO.out.brows (by rw [(Mat.vand_sh q k).1])).take k (by omega)
  rw [S1.out] at hB1
  have HB1 := Lib.hid hB1
  clear hB1
  refine (invert_any _ (Mat.vand k k) k ⟨h1, by omega⟩ (Mat.vand_sh k k) _ HB1.out).mono ?_
  rintro e w2 (⟨hn, -, -⟩ | ⟨z, gz, hz, rfl, hZ, x2⟩)
  · rw [HT.out] at hn; cases hn
  · rw [HT.out] at hz
    cases hz
    have HZ := Lib.hid hZ
    have X2 := Lib.hid x2
    clear hZ x2
    go_wp2_with fail
    have zsh := (Mat.minv_spec (Mat.vand_sh k k) HT.out).1
    refine (mul_any _ _ (Mat.vand q k) top q k k ⟨by omega, b2⟩ ⟨h1, by omega⟩ ⟨h1, by omega⟩ (Mat.vand_sh q k) zsh _ ((HO.out.ext X2.out).brows (by rw [(Mat.vand_sh q k).1])) (HZ.out.brows (by rw [zsh.1]))).mono ?_
    rintro e w3 ⟨g3, rfl, hM, x3⟩
    have HM := Lib.hid (hM.mono (Nat.le_trans X1.out.size X2.out.size))
    have X3 := Lib.hid (Ext.trans (Ext.trans X1.out X2.out) x3)
    have HS2 := Lib.hid (HQ.out ▸ HS.out)
    clear hM x3 zsh
    go_wp2_with fail
    go_ret2
    exact ⟨_, g3, HS2.out, rfl, HM.out, X3.out⟩
theorem sys_no (k m : Int) (h : ¬ (1 ≤ k ∧ 1 ≤ m ∧ k + m ≤ 255)) (w : World) :
    Calls Try.prog 27 #[.int .i64 k, .int .i64 m] w fun e w' => e = .returned (.tuple #[.slice none 0 0, .bool false]) ∧ w = w' := by
  have key : k < 1 ∨ (1 ≤ k ∧ m < 1) ∨ (1 ≤ k ∧ 1 ≤ m ∧ 255 < k) ∨ (1 ≤ k ∧ 1 ≤ m ∧ k ≤ 255 ∧ 255 - k < m) := by omega
  clear h
  rcases key with h1 | ⟨h1, h2⟩ | ⟨h1, h2, h3⟩ | ⟨h1, h2, h3, h4⟩
  all_goals
    go_enter Try.func27, Try.ntmps27
    go_wp2_with fail
    go_ret2
    exact ⟨rfl, rfl⟩
end Go.Proofs.Ytdmdcgcmappliaa
