/-
  The reference's Good, Square, MulMatrix.
-/
import Derived.Test.YtdmdcgcmappliaaRefA
import Derived.Test.YtdmdcgcmappliaaMxF
import Derived.Test.YtdmdcgcmappliaaMxI
import Derived.Test.YtdmdcgcmappliaaRsA
namespace Go.Proofs.Ytdmdcgcmappliaa
open Go.RowKit Gf
set_option maxRecDepth 100000
set_option maxHeartbeats 4000000
attribute [local go_sem] min_int2 max_int2

theorem rgood_any (v : Value) (ls : Mat.M) (d : Bool) (hd : d = true ↔ Mat.Good ls) (w : World) (hV : BRows w v ls) :
    Calls Try.prog 77 #[v] w fun e w' => e = .returned (.bool d) ∧ Ext w w' := by
  obtain ⟨a, cap, rfl⟩ := hV.form
  rw [Mat.good_iff] at hd
  have HD := Lib.hid hd
  have HV := Lib.hid hV
  clear hd hV
  go_enter Try.func77, Try.ntmps77
  by_cases h1 : ls.length < 1
  case pos =>
    have q : (ls.length : Int) < 1 := by omega
    have hdf : d = false := by
      cases d
      · rfl
      · have := HD.out.1 rfl; omega
    subst hdf
    go_wp2_with fail
    go_ret
    exact ⟨rfl, Ext.refl _⟩
  by_cases h2 : 255 < ls.length
  case pos =>
    have q : 1 ≤ (ls.length : Int) := by omega
    have q2 : (255 : Int) < (ls.length : Int) := by omega
    have hdf : d = false := by
      cases d
      · rfl
      · have := HD.out.1 rfl; omega
    subst hdf
    go_wp2_with fail
    go_ret
    exact ⟨rfl, Ext.refl _⟩
  obtain ⟨k, hk⟩ : ∃ k, ls.length = k := ⟨_, rfl⟩
  have h0 : 0 < ls.length := by omega
  obtain ⟨n0, hn0⟩ : ∃ n0, (ls.getD 0 []).length = n0 := ⟨_, rfl⟩
  obtain ⟨ab, ao, ra0, rc0, rfl, c0, -⟩ := HV.out.at (List.getElem?_eq_getElem h0)
  rw [Nat.add_zero, ← Mat.getD_lt h0 [], hn0] at c0
  rw [hk] at HV h1 h2 ⊢
  have HK := Lib.hid hk
  have N0 := Lib.hid hn0
  have q1 : 1 ≤ (k : Int) := by omega
  have q2 : (k : Int) ≤ 255 := by omega
  clear hk h0 hn0
  by_cases h3 : n0 < 1
  case pos =>
    have q : (n0 : Int) < 1 := by omega
    have hdf : d = false := by
      cases d
      · rfl
      · have := HD.out.1 rfl; have := N0.out; omega
    subst hdf
    go_wp2_with fail
    go_ret
    exact ⟨rfl, Ext.refl _⟩
  by_cases h4 : 255 < n0
  case pos =>
    have q : 1 ≤ (n0 : Int) := by omega
    have q2 : (255 : Int) < (n0 : Int) := by omega
    have hdf : d = false := by
      cases d
      · rfl
      · have := HD.out.1 rfl; have := N0.out; omega
    subst hdf
    go_wp2_with fail
    go_ret
    exact ⟨rfl, Ext.refl _⟩
  have q3 : 1 ≤ (n0 : Int) := by omega
  have q4 : (n0 : Int) ≤ 255 := by omega
  go_wp2_with fail
  clear c0
  go_loopw [3] (fun v3 wr => ∃ i : Nat, i ≤ k ∧ v3 = .int .i64 (i : Nat) ∧ Hid ((∀ j, j < i → (ls.getD j []).length = n0) ∧ Ext w wr)) (fun v3 _ => (k - intOf v3).toNat)
  case atStart => exact ⟨0, by omega, rfl, Lib.hid ⟨fun j h => by omega, Ext.refl _⟩⟩
  case round =>
    obtain ⟨i, hi, rfl, hR⟩ := hrel
    by_cases hlt : i < k
    · have hlt' : (i : Int) < (k : Int) := by omega
      have hia : i < ls.length := by rw [HK.out]; exact hlt
      have h0a : 0 < ls.length := by rw [HK.out]; omega
      obtain ⟨qa, qc, c1, -⟩ := (HV.out.ext hR.out.2).rowAt (List.getElem?_eq_getElem hia)
      obtain ⟨ra0, rc0, c0, -⟩ := (HV.out.ext hR.out.2).rowAt (List.getElem?_eq_getElem h0a)
      rw [Nat.add_zero, ← Mat.getD_lt h0a [], N0.out] at c0
      obtain ⟨p, hp⟩ : ∃ p, ls[i].length = p := ⟨_, rfl⟩
      rw [hp] at c1
      have HP := Lib.hid (show (ls.getD i []).length = p from by rw [Mat.getD_lt hia []]; exact hp)
      have HR2 : Hid (ls.getD i [] ∈ ls) := Lib.hid (by rw [Mat.getD_lt hia []]; exact List.getElem_mem _)
      clear hp hia h0a
      by_cases e1 : p = n0
      · have q3 : ((p : Int) != (n0 : Int)) = false := (bne_len _ _).trans (decide_eq_false (fun h => h e1))
        have E1 := Lib.hid e1
        clear e1
        go_wp2_with fail
        go_quiet (fail)
        have HN := Lib.hid (show (∀ j, j < i + 1 → (ls.getD j []).length = n0) ∧ Ext w (wr.drewN nq) from ⟨fun j hj => by
          by_cases e : j = i
          · subst e; rw [HP.out, E1.out]
          · exact hR.out.1 j (by omega), Ext.trans hR.out.2 (Ext.of_drawn _ _)⟩)
        generalize wr.drewN nq = wt at HN ⊢
        go_wp2_with fail
        exact ⟨⟨i + 1, by omega, by go_num, HN⟩, by simp [intOf]; omega⟩
      · have q3 : ((p : Int) != (n0 : Int)) = true := (bne_len _ _).trans (decide_eq_true e1)
        have hdf : d = false := by
          cases d
          · rfl
          · have h5 := (HD.out.1 rfl).2.2.2.2 _ HR2.out
            rw [HP.out, N0.out] at h5
            exact absurd h5 e1
        subst hdf
        clear e1
        go_wp2_with fail
        go_quiet (fail)
        have x8 := Lib.hid (Ext.trans hR.out.2 (Ext.of_drawn wr nq))
        generalize wr.drewN nq = wt at x8 ⊢
        go_wp2_with fail
        go_ret
        exact ⟨rfl, x8.out⟩
    · have hdt : d = true := HD.out.2 ⟨by rw [HK.out]; omega, by rw [HK.out]; omega, by rw [N0.out]; omega, by rw [N0.out]; omega, fun r hr => by
        obtain ⟨j, hj⟩ := List.getElem?_of_mem hr
        have hj2 := (List.getElem?_eq_some_iff.1 hj).1
        have h3 := hR.out.1 j (by have := HK.out; omega)
        rw [Mat.getD_lt hj2 [], (List.getElem?_eq_some_iff.1 hj).2] at h3
        rw [h3, N0.out]⟩
      subst hdt
      have x8 := Lib.hid hR.out.2
      clear hR
      go_wp2_with fail
      go_ret
      exact ⟨rfl, x8.out⟩
theorem rsquare_any (v : Value) (ls : Mat.M) (d : Bool) (hd : d = true ↔ ∃ n, 1 ≤ n ∧ n ≤ 255 ∧ Mat.Sh ls n n) (w : World) (hV : BRows w v ls) :
    Calls Try.prog 75 #[v] w fun e w' => e = .returned (.bool d) ∧ Ext w w' := by
  obtain ⟨a, cap, rfl⟩ := hV.form
  have HD := Lib.hid hd
  have HV := Lib.hid hV
  clear hd hV
  go_enter Try.func75, Try.ntmps75
  go_wp2_with fail
  by_cases hg : Mat.Good ls
  case neg =>
    have hdf : d = false := by
      cases d
      · rfl
      · obtain ⟨n, h1, h2, h3⟩ := HD.out.1 rfl
        exact absurd ⟨n, n, h1, h2, h1, h2, h3⟩ hg
    subst hdf
    have HG := Lib.hid hg
    clear hg
    refine (rgood_any _ ls false ⟨(fun h => Bool.noConfusion h), fun h => absurd h HG.out⟩ _ HV.out).mono ?_; rintro e w1 ⟨rfl, x1⟩
    go_wp2_with fail
    go_ret
    exact ⟨rfl, x1⟩
  have HG := Lib.hid hg
  clear hg
  refine (rgood_any _ ls true ⟨fun _ => HG.out, fun _ => rfl⟩ _ HV.out).mono ?_; rintro e w1 ⟨rfl, x1⟩
  have X1 := Lib.hid x1
  obtain ⟨k, hk⟩ : ∃ k, ls.length = k := ⟨_, rfl⟩
  obtain ⟨n0, hn0⟩ : ∃ n0, (ls.getD 0 []).length = n0 := ⟨_, rfl⟩
  have hs := HG.out.sides
  obtain ⟨ab, ao, ra0, rc0, rfl, c0, -⟩ := (HV.out.ext x1).at (List.getElem?_eq_getElem (show 0 < ls.length by omega))
  rw [Nat.add_zero, ← Mat.getD_lt (show 0 < ls.length by omega) [], hn0] at c0
  have hS := hs.2.2.2.2
  rw [hk, hn0] at hS
  have HS := Lib.hid hS
  have k1 : 1 ≤ k ∧ k ≤ 255 := by omega
  rw [hk]
  clear hs x1 hk hn0 hS
  have q : ((k : Int) == (n0 : Int)) = d := by
    cases d with
    | true =>
      obtain ⟨n, h1, h2, h3⟩ := HD.out.1 rfl
      have e1 := h3.1
      have e2 := h3.row (show 0 < n by omega)
      have e3 := HS.out.1
      have e4 := HS.out.row (show 0 < k by omega)
      exact beq_iff_eq.2 (by omega)
    | false =>
      refine beq_eq_false_iff_ne.2 fun h => ?_
      have := HD.out.2 ⟨k, k1.1, k1.2, by have e : n0 = k := by omega
                                          rw [e] at HS; exact HS.out⟩
      cases this
  go_wp2_with fail
  go_ret
  exact ⟨rfl, X1.out⟩
end Go.Proofs.Ytdmdcgcmappliaa
