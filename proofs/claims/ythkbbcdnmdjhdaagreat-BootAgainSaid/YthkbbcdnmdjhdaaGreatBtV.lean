/-
  The reference's Init and Start; both, on a pair.
-/
import Derived.Test.YthkbbcdnmdjhdaaGreatBtA
import Derived.Test.YthkbbcdnmdjhdaaGreatHtI
/-! XBtV: The reference's Init and Start; both, on a pair. -/
namespace Go.Proofs.YthkbbcdnmdjhdaaGreat
open Go.RowKit Dk
set_option maxRecDepth 100000
set_option maxHeartbeats 4000000
attribute [local go_sem] min_int2 max_int2 bstr_toList

theorem rvinit_any (a : AA) (fp : Option Nat) (s : AS) (Y : Thing) (n : Nat) (w0 w : World) (hL : Lab w0 w (memV a fp s Y)) (hk : a.Ok s) (hA : ASnd s n) (hn : n < 900000000) :
    Calls Tryz.prog 53 #[.pointer (some ⟨a.ab, 0, none⟩)] w fun e w' => e = .returned (.int .i64 ((s.inits (fmtB a.K a.M) a.ss.length).1 : Nat)) ∧ Lab w0 w' (memV a fp (s.inits (fmtB a.K a.M) a.ss.length).2 Y) := by
  have HL := Lib.hid hL
  have HK := Lib.hid (And.intro hk hA)
  obtain ⟨m, hm⟩ : ∃ m, a.ss.length = m := ⟨_, rfl⟩
  have HC := Lib.hid (show ∀ W s', Lab w0 W (memV a fp s' Y) → W.cell? ⟨a.ab, 4, none⟩ = some (.slice (some ⟨a.gs, 0, none⟩) m a.gc) from fun W s' h => hm ▸ (rarrT.cells h.left).2.2.2.2)
  rw [hm]
  have hm2 : m ≤ 255 := by have := hk.n; have := hk.n255; omega
  have HM := Lib.hid hm
  clear hL hk hA hm
  go_enter Tryz.func53, Tryz.ntmps53
  go_wp2_with fail
  go_loopw [3] (fun v9 wr => ∃ (i : Nat), i ≤ m ∧ v9 = .int .i64 (i : Nat) ∧ Hid ((s.inits (fmtB a.K a.M) i).1 = 0 ∧ Lab w0 wr (memV a fp (s.inits (fmtB a.K a.M) i).2 Y))) (fun v9 _ => (m - intOf v9).toNat)
  case atStart => exact ⟨0, by omega, rfl, Lib.hid ⟨rfl, HL.out⟩⟩
  case round =>
    obtain ⟨i, hi, rfl, HI⟩ := hrel
    have c4 := HC.out _ _ HI.out.2
    by_cases hlt : i < m
    · have hlt' : (i : Int) < (m : Int) := by omega
      have HG := Lib.hid (s.inits_go (fmtB a.K a.M) HI.out.1)
      have HKI := Lib.hid (show a.Ok (s.inits (fmtB a.K a.M) i).2 ∧ ASnd (s.inits (fmtB a.K a.M) i).2 (n + 3 * i) from ⟨HK.out.1.of (AS.inits_len ..), HK.out.2.inits _ i⟩)
      go_wp2_with fail
      refine (rvformat_any a fp _ _ (n + 3 * i) i w0 _ HI.out.2 HKI.out.1 HKI.out.2 (by omega) (by rw [HM.out]; exact hlt)).mono ?_; rintro e w1 ⟨rfl, hL⟩
      rw [← HG.out] at hL ⊢
      obtain ⟨r, hr⟩ : ∃ r, (s.inits (fmtB a.K a.M) (i + 1)).1 = r := ⟨_, rfl⟩
      rw [hr]
      have HR := Lib.hid (And.intro hr hL)
      clear hr hL c4
      by_cases h0 : r = 0
      · subst h0
        go_wp2_with fail
        exact ⟨⟨i + 1, by omega, by go_num, HR⟩, by simp [intOf]; omega⟩
      · have q1 : ((r : Int) != 0) = true := by simp; omega
        have HS := Lib.hid (s.inits_stop (fmtB a.K a.M) (k := i + 1) (by rw [HR.out.1]; exact h0) (n := m) (by omega))
        clear h0
        go_wp2_with fail
        go_ret
        rw [HS.out, HR.out.1]
        exact ⟨rfl, HR.out.2⟩
    · obtain rfl : i = m := by omega
      clear hlt
      go_wp2_with fail
      go_ret
      rw [HI.out.1]
      exact ⟨rfl, HI.out.2⟩
theorem rvstart_any (a : AA) (fp : Option Nat) (s : AS) (Y : Thing) (n : Nat) (w0 w : World) (hL : Lab w0 w (memV a fp s Y)) (hk : a.Ok s) (hA : ASnd s n) (hn : n < 800000000) :
    Calls Tryz.prog 54 #[.pointer (some ⟨a.ab, 0, none⟩)] w fun e w' =>
      e = .returned (.tuple #[.int .i64 (((s.dels a.ss.length).voices (fmtB a.K a.M) a.ss.length).1.length : Nat), .int .i64 (short ((s.dels a.ss.length).voices (fmtB a.K a.M) a.ss.length).1.length (quo a.K a.M) : Nat)]) ∧ Lab w0 w' (memV a fp ((s.dels a.ss.length).voices (fmtB a.K a.M) a.ss.length).2 Y) := by
  have HL := Lib.hid hL
  have HK := Lib.hid (And.intro hk hA)
  obtain ⟨m, hm⟩ : ∃ m, a.ss.length = m := ⟨_, rfl⟩
  have HC := Lib.hid (show ∀ W s', Lab w0 W (memV a fp s' Y) → W.cell? ⟨a.ab, 4, none⟩ = some (.slice (some ⟨a.gs, 0, none⟩) m a.gc) ∧ W.cell? ⟨a.ab, 0, none⟩ = some (.int .i64 a.K) ∧ W.cell? ⟨a.ab, 1, none⟩ = some (.int .i64 a.M) ∧ W.cell? ⟨a.ab, 2, none⟩ = some (.int .i64 a.B) from fun W s' h => ⟨hm ▸ (rarrT.cells h.left).2.2.2.2, (rarrT.cells h.left).1, (rarrT.cells h.left).2.1, (rarrT.cells h.left).2.2.1⟩)
  rw [hm]
  have hm2 : m ≤ 255 := by have := hk.n; have := hk.n255; omega
  have HM := Lib.hid hm
  clear hL hk hA hm
  go_enter Tryz.func54, Tryz.ntmps54
  go_wp2_with fail
  go_loopw [4] (fun v9 wr => ∃ (i : Nat), i ≤ m ∧ v9 = .int .i64 (i : Nat) ∧ Hid (Lab w0 wr (memV a fp (s.dels i) Y))) (fun v9 _ => (m - intOf v9).toNat)
  case atStart => exact ⟨0, by omega, rfl, HL⟩
  case round =>
    obtain ⟨i, hi, rfl, HI⟩ := hrel
    obtain ⟨c4, -, -, -⟩ := HC.out _ _ HI.out
    by_cases hlt : i < m
    · have hlt' : (i : Int) < (m : Int) := by omega
      have HKI := Lib.hid (show a.Ok (s.dels i) ∧ ASnd (s.dels i) (n + i) from ⟨HK.out.1.of (AS.dels_len ..), HK.out.2.dels i⟩)
      obtain ⟨sa, hs⟩ : ∃ sa, a.ss[i]? = some sa := ⟨_, List.getElem?_eq_getElem (by rw [HM.out]; exact hlt)⟩
      have HSA := Lib.hid hs
      have c5 := rarrT.disk HI.out.left hs
      clear hs
      go_wp2_with fail
      refine (Lab.vdelete HI.out HKI.out.1 HKI.out.2 (by omega) HSA.out tmpP (by decide)).mono ?_; rintro e w1 ⟨rfl, hL⟩
      have L1 := Lib.hid (show Lab w0 w1 (memV a fp (s.dels (i + 1)) Y) from hL)
      clear hL c4 c5
      go_wp2_with fail
      exact ⟨⟨i + 1, by omega, by go_num, L1⟩, by simp [intOf]; omega⟩
    · obtain rfl : i = m := by omega
      clear hlt
      have HKI := Lib.hid (show a.Ok (s.dels i) ∧ ASnd (s.dels i) (n + i) from ⟨HK.out.1.of (AS.dels_len ..), HK.out.2.dels i⟩)
      go_wp2_with fail
      refine (rvvoices_any a fp _ _ (n + i) w0 _ HI.out HKI.out.1 HKI.out.2 (by omega)).mono ?_; rintro e w1 ⟨u, rfl, hL⟩
      rw [HM.out] at hL
      obtain ⟨t, ht⟩ : ∃ t, (s.dels i).voices (fmtB a.K a.M) i = t := ⟨_, rfl⟩
      rw [ht] at hL
      obtain ⟨l, t⟩ := t
      simp only at hL
      obtain ⟨ua, uc, rfl⟩ := Own.slice' (ownT.own hL.left)
      obtain ⟨q, hq⟩ : ∃ q, l.length = q := ⟨_, rfl⟩
      rw [show (ivs (l.map Int.ofNat)).length = q by simp [hq]]
      have HT := Lib.hid (And.intro ht hq)
      have L1 := Lib.hid hL.right
      obtain ⟨-, c0, c1, c2⟩ := HC.out _ _ L1.out
      obtain ⟨k, hkk⟩ : ∃ k, quo a.K a.M = k := ⟨_, rfl⟩
      have HKK := Lib.hid hkk
      clear hL hq ht hkk c4
      go_wp2_with fail
      refine (rquorum_any a.K a.M a.B (by have := HK.out.1.n255; omega) (by have := HK.out.1.n255; omega) _).mono ?_; rintro e w2 ⟨rfl, x2⟩
      rw [HKK.out]
      have L2 := Lib.hid (L1.out.ext x2)
      clear x2 c0 c1 c2
      by_cases h1 : q < k
      · have h1' : (q : Int) < (k : Int) := by omega
        have HF := Lib.hid h1
        clear h1
        go_wp2_with fail
        go_ret2
        rw [HT.out.1, HT.out.2, HKK.out, short, if_pos HF.out]
        exact ⟨rfl, L2.out⟩
      · have h1' : (k : Int) ≤ (q : Int) := by omega
        have HF := Lib.hid h1
        clear h1
        go_wp2_with fail
        go_ret2
        rw [HT.out.1, HT.out.2, HKK.out, short, if_neg HF.out]
        exact ⟨rfl, L2.out⟩
namespace Dk
/-- The state behind Start, and its answers. -/
def AS.starts (s : AS) (K M : Nat) : (Nat × Nat) × AS :=
  ((((s.dels s.ds.length).voices (fmtB K M) s.ds.length).1.length, short ((s.dels s.ds.length).voices (fmtB K M) s.ds.length).1.length (quo K M)), ((s.dels s.ds.length).voices (fmtB K M) s.ds.length).2)
theorem AS.starts_len (s : AS) (K M : Nat) : (AS.starts s K M).2.ds.length = s.ds.length := (AS.voices_len ..).trans (AS.dels_len ..)
theorem ASnd.starts {s : AS} {n : Nat} (h : ASnd s n) (K M : Nat) : ASnd (AS.starts s K M).2 (n + 510) := by
  have := h.len
  exact ((h.dels _).voices _ _).mono (by omega)
theorem Alive.dels {s : AS} (h : Alive s) : ∀ k, Alive (s.dels k)
  | 0 => h
  | k + 1 => (Alive.dels h k).op k (fun z d => deletes z d tmpP) fun z d => deletes_z z d _
theorem Alive.starts {s : AS} (h : Alive s) (K M : Nat) : Alive (AS.starts s K M).2 := (Alive.dels h _).voices _ _
theorem Alive.inits {s : AS} (h : Alive s) (wd : Nat → List UInt8) : ∀ k, Alive (s.inits wd k).2
  | 0 => h
  | k + 1 => by
    have ih := Alive.inits h wd k
    show Alive (if (s.inits wd k).1 ≠ 0 then s.inits wd k else _).2
    split
    · exact ih
    · exact ih.save _ _ _
end Dk
section
variable {w0 w : World} {P : PA} {s t : AS} {Y : Thing} {n : Nat}
theorem pinit_a (hL : Lab w0 w (memP P s t Y)) (hk : P.A.Ok s) (hA : ASnd s n) (hn : n < 800000000) :
    Calls Tryz.prog 44 #[.pointer (some ⟨P.A.ab, 0, none⟩)] w fun e w' => e = .returned (.int .i64 ((s.inits (fmtB P.A.K P.A.M) s.ds.length).1 : Nat)) ∧ Lab w0 w' (memP P (s.inits (fmtB P.A.K P.A.M) s.ds.length).2 t Y) := by
  refine (binit_any P.A (some P.f) s _ n w0 w (hL.ent memP_in) hk hA (by omega)).mono ?_
  rintro e w' ⟨k1, k2⟩
  rw [hk.len]
  exact ⟨k1, k2.ent memP_out⟩
theorem pinit_v (hL : Lab w0 w (memP P s t Y)) (hk : P.V.Ok t) (hA : ASnd t n) (hn : n < 800000000) :
    Calls Tryz.prog 53 #[.pointer (some ⟨P.V.ab, 0, none⟩)] w fun e w' => e = .returned (.int .i64 ((t.inits (fmtB P.V.K P.V.M) t.ds.length).1 : Nat)) ∧ Lab w0 w' (memP P s (t.inits (fmtB P.V.K P.V.M) t.ds.length).2 Y) := by
  refine (rvinit_any P.V (some P.g) t _ n w0 w (hL.ent memP_inV) hk hA (by omega)).mono ?_
  rintro e w' ⟨k1, k2⟩
  rw [hk.len]
  exact ⟨k1, k2.ent memP_outV⟩
theorem pstart_a (hL : Lab w0 w (memP P s t Y)) (hk : P.A.Ok s) (hA : ASnd s n) (hn : n < 800000000) :
    Calls Tryz.prog 48 #[.pointer (some ⟨P.A.ab, 0, none⟩)] w fun e w' => e = .returned (.tuple #[.int .i64 ((AS.starts s P.A.K P.A.M).1.1 : Nat), .int .i64 ((AS.starts s P.A.K P.A.M).1.2 : Nat)]) ∧ Lab w0 w' (memP P (AS.starts s P.A.K P.A.M).2 t Y) := by
  refine (bstart_any P.A (some P.f) s _ n w0 w (hL.ent memP_in) hk hA (by omega)).mono ?_
  rintro e w' ⟨k1, k2⟩
  unfold AS.starts
  rw [hk.len]
  exact ⟨k1, k2.ent memP_out⟩
theorem pstart_v (hL : Lab w0 w (memP P s t Y)) (hk : P.V.Ok t) (hA : ASnd t n) (hn : n < 800000000) :
    Calls Tryz.prog 54 #[.pointer (some ⟨P.V.ab, 0, none⟩)] w fun e w' => e = .returned (.tuple #[.int .i64 ((AS.starts t P.V.K P.V.M).1.1 : Nat), .int .i64 ((AS.starts t P.V.K P.V.M).1.2 : Nat)]) ∧ Lab w0 w' (memP P s (AS.starts t P.V.K P.V.M).2 Y) := by
  refine (rvstart_any P.V (some P.g) t _ n w0 w (hL.ent memP_inV) hk hA (by omega)).mono ?_
  rintro e w' ⟨k1, k2⟩
  unfold AS.starts
  rw [hk.len]
  exact ⟨k1, k2.ent memP_outV⟩
end
end Go.Proofs.YthkbbcdnmdjhdaaGreat
