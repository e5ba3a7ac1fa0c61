/-
  The reference's Systematic.
-/
import Derived.Test.YtdmdcgcmappliaaRefD
import Derived.Test.YtdmdcgcmappliaaMxR
namespace Go.Proofs.Ytdmdcgcmappliaa
open Go.RowKit Gf
set_option maxRecDepth 100000
set_option maxHeartbeats 4000000
attribute [local go_sem] min_int2 max_int2

theorem rsys_any (k m : Nat) (h1 : 1 ≤ k) (h2 : 1 ≤ m) (h3 : k + m ≤ 255) (w : World) :
    Calls Try.prog 29 #[.int .i64 k, .int .i64 m] w fun e w' => ∃ x u, Mat.sys k m = some x ∧ e = .returned (.tuple #[u, .bool true]) ∧ RA w' w.heap.size w'.heap.size u x ∧ Ext w w' := by
  obtain ⟨top, ht, hs⟩ := Mat.sys_some k m (by omega)
  obtain ⟨q, hq⟩ : ∃ q, k + m = q := ⟨_, rfl⟩
  have hqi : (k : Int) + (m : Int) = (q : Int) := by omega
  have HS := Lib.hid hs
  have HT := Lib.hid ht
  have HQ := Lib.hid hq
  have b1 : k < q := by omega
  have b2 : q ≤ 255 := by omega
  have s1 := Mat.vand_take k m k
  rw [hq] at s1
  have S1 := Lib.hid s1
  clear hs ht hq s1
  go_enter Try.func29, Try.ntmps29
  go_wp2_with fail
  refine (rvand_any q k (by omega) b2 h1 (by omega) _).mono ?_; rintro e w1 ⟨u, rfl, hO, x1⟩
  have hbr := hO.brows
  obtain ⟨va, vc, rfl⟩ := hbr.form
  rw [(Mat.vand_sh q k).1] at hbr ⊢
  have HO := Lib.hid hbr
  have X1 := Lib.hid x1
  clear hO x1 hbr
  have hcap : q ≤ vc := by
    obtain ⟨vs, ⟨a', cap', e, hl, -⟩, h2, -⟩ := HO.out
    simp only [Value.slice.injEq] at e
    omega
  go_wp2_with fail
  have hB1 := HO.out.take k (by omega)
  rw [S1.out] at hB1
  have HB1 := Lib.hid hB1
  clear hB1
  refine (rinvert_any _ (Mat.vand k k) k ⟨h1, by omega⟩ (Mat.vand_sh k k) _ HB1.out).mono ?_
  rintro e w2 (⟨hn, -, -⟩ | ⟨z, gz, hz, rfl, hZ, x2⟩)
  · rw [HT.out] at hn; cases hn
  · rw [HT.out] at hz
    cases hz
    have HZ := Lib.hid hZ
    have X2 := Lib.hid x2
    clear hZ x2
    go_wp2_with fail
    have zsh := (Mat.minv_spec (Mat.vand_sh k k) HT.out).1
    refine (rmulm_any _ _ (Mat.vand q k) top q k k ⟨by omega, b2⟩ ⟨h1, by omega⟩ ⟨h1, by omega⟩ (Mat.vand_sh q k) zsh _ (HO.out.ext X2.out) HZ.out.brows).mono ?_
    rintro e w3 ⟨g3, rfl, hM, x3⟩
    have HM := Lib.hid (hM.mono (Nat.le_trans X1.out.size X2.out.size) (Nat.le_refl _))
    have X3 := Lib.hid (Ext.trans (Ext.trans X1.out X2.out) x3)
    have HS2 := Lib.hid (HQ.out ▸ HS.out)
    clear hM x3 zsh
    go_wp2_with fail
    go_ret2
    exact ⟨_, g3, HS2.out, rfl, HM.out, X3.out⟩
theorem rsys_no (k m : Int) (h : ¬ (1 ≤ k ∧ 1 ≤ m ∧ k + m ≤ 255)) (w : World) :
    Calls Try.prog 29 #[.int .i64 k, .int .i64 m] w fun e w' => e = .returned (.tuple #[.slice none 0 0, .bool false]) ∧ w = w' := by
  have key : k < 1 ∨ (1 ≤ k ∧ m < 1) ∨ (1 ≤ k ∧ 1 ≤ m ∧ 255 < k) ∨ (1 ≤ k ∧ 1 ≤ m ∧ k ≤ 255 ∧ 255 - k < m) := by omega
  clear h
  rcases key with h1 | ⟨h1, h2⟩ | ⟨h1, h2, h3⟩ | ⟨h1, h2, h3, h4⟩
  all_goals
    go_enter Try.func29, Try.ntmps29
    go_wp2_with fail
    go_ret2
    exact ⟨rfl, rfl⟩
end Go.Proofs.Ytdmdcgcmappliaa
