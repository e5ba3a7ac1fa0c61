/-
  boot: what Init and Start do to an array's disks, and that the program does so.
-/
import Derived.Test.YthkbbcdnmdjhdaaGreatArC
/-! XBtA: boot: what Init and Start do to an array's disks, and that the program does so. -/
namespace Go.Proofs.YthkbbcdnmdjhdaaGreat
open Go.RowKit Dk
set_option maxRecDepth 100000
set_option maxHeartbeats 4000000
attribute [local go_sem] min_int2 max_int2 bstr_toList

namespace Dk
/-- The first k disks formatted, as far as it goes. -/
def AS.inits (s : AS) (wd : Nat → List UInt8) : Nat → Nat × AS
  | 0 => (0, s)
  | k + 1 => if (s.inits wd k).1 ≠ 0 then s.inits wd k else (s.inits wd k).2.save k fmtP (wd k)
theorem AS.inits_stop (s : AS) (wd : Nat → List UInt8) {k : Nat} (h : (s.inits wd k).1 ≠ 0) : ∀ {n : Nat}, k ≤ n → s.inits wd n = s.inits wd k
  | 0, hn => by rw [Nat.le_zero.1 hn]
  | n + 1, hn => by
    by_cases e : k = n + 1
    · rw [e]
    · have ih := s.inits_stop wd h (n := n) (by omega)
      show (if (s.inits wd n).1 ≠ 0 then s.inits wd n else _) = _
      rw [ih, if_pos h]
theorem AS.inits_go (s : AS) (wd : Nat → List UInt8) {k : Nat} (h : (s.inits wd k).1 = 0) : s.inits wd (k + 1) = (s.inits wd k).2.save k fmtP (wd k) := by
  show (if (s.inits wd k).1 ≠ 0 then s.inits wd k else _) = _
  rw [if_neg (fun e => e h)]
theorem AS.inits_len (s : AS) (wd : Nat → List UInt8) : ∀ k, (s.inits wd k).2.ds.length = s.ds.length
  | 0 => rfl
  | k + 1 => by
    have ih := s.inits_len wd k
    show (if (s.inits wd k).1 ≠ 0 then s.inits wd k else _).2.ds.length = _
    split
    · exact ih
    · rw [AS.save_len, ih]
theorem ASnd.inits {s : AS} {n : Nat} (h : ASnd s n) (wd : Nat → List UInt8) : ∀ k, ASnd (s.inits wd k).2 (n + 3 * k)
  | 0 => h
  | k + 1 => by
    have ih := h.inits wd k
    show ASnd (if (s.inits wd k).1 ≠ 0 then s.inits wd k else _).2 _
    split
    · exact ih.mono (by omega)
    · exact ih.save _ _ _
/-- What was left half done is cleared from the first k disks. -/
def AS.dels (s : AS) : Nat → AS
  | 0 => s
  | k + 1 => ((s.dels k).op k fun z d => deletes z d tmpP).2
theorem AS.dels_len (s : AS) : ∀ k, (s.dels k).ds.length = s.ds.length
  | 0 => rfl
  | k + 1 => (AS.op_len ..).trans (s.dels_len k)
theorem ASnd.dels {s : AS} {n : Nat} (h : ASnd s n) : ∀ k, ASnd (s.dels k) (n + k)
  | 0 => h
  | k + 1 => (h.dels k).delete k tmpP
/-- Unavailable, if there are fewer. -/
def short (l q : Nat) : Nat := if l < q then 11 else 0
end Dk

theorem binit_any (a : AA) (fp : Option Nat) (s : AS) (Y : Thing) (n : Nat) (w0 w : World) (hL : Lab w0 w (memA a fp s Y)) (hk : a.Ok s) (hA : ASnd s n) (hn : n < 900000000) :
    Calls Tryz.prog 44 #[.pointer (some ⟨a.ab, 0, none⟩)] w fun e w' => e = .returned (.int .i64 ((s.inits (fmtB a.K a.M) a.ss.length).1 : Nat)) ∧ Lab w0 w' (memA a fp (s.inits (fmtB a.K a.M) a.ss.length).2 Y) := by
  have HL := Lib.hid hL
  have HK := Lib.hid (And.intro hk hA)
  obtain ⟨m, hm⟩ : ∃ m, a.ss.length = m := ⟨_, rfl⟩
  have HN := Lib.hid (aN_any a w0 w hL.left)
  rw [hm] at HN ⊢
  have hm2 : m ≤ 255 := by have := hk.n; have := hk.n255; omega
  have HM := Lib.hid hm
  clear hL hk hA hm
  go_enter Tryz.func44, Tryz.ntmps44
  go_wp2_with fail
  refine HN.out.mono ?_; rintro e w' ⟨rfl, rfl⟩
  go_wp2_with fail
  go_loopw [9] (fun v9 wr => ∃ (i : Nat), i ≤ m ∧ v9 = .int .i64 (i : Nat) ∧ Hid ((s.inits (fmtB a.K a.M) i).1 = 0 ∧ Lab w0 wr (memA a fp (s.inits (fmtB a.K a.M) i).2 Y))) (fun v9 _ => (m - intOf v9).toNat)
  case atStart => exact ⟨0, by omega, rfl, Lib.hid ⟨rfl, HL.out⟩⟩
  case round =>
    obtain ⟨i, hi, rfl, HI⟩ := hrel
    by_cases hlt : i < m
    · have hlt' : (i : Int) < (m : Int) := by omega
      have HG := Lib.hid (s.inits_go (fmtB a.K a.M) HI.out.1)
      have HKI := Lib.hid (show a.Ok (s.inits (fmtB a.K a.M) i).2 ∧ ASnd (s.inits (fmtB a.K a.M) i).2 (n + 3 * i) from ⟨HK.out.1.of (AS.inits_len ..), HK.out.2.inits _ i⟩)
      go_wp2_with fail
      refine (aformat_any a fp _ _ (n + 3 * i) i w0 _ HI.out.2 HKI.out.1 HKI.out.2 (by omega) (by rw [HM.out]; exact hlt)).mono ?_; rintro e w1 ⟨rfl, hL⟩
      rw [← HG.out] at hL ⊢
      obtain ⟨r, hr⟩ : ∃ r, (s.inits (fmtB a.K a.M) (i + 1)).1 = r := ⟨_, rfl⟩
      rw [hr]
      have HR := Lib.hid (And.intro hr hL)
      clear hr hL
      by_cases h0 : r = 0
      · subst h0
        go_wp2_with fail
        exact ⟨⟨i + 1, by omega, by go_num, HR⟩, by simp [intOf]; omega⟩
      · have q1 : ((r : Int) != 0) = true := by simp; omega
        have HS := Lib.hid (s.inits_stop (fmtB a.K a.M) (k := i + 1) (by rw [HR.out.1]; exact h0) (n := m) (by omega))
        clear h0
        go_wp2_with fail
        go_ret
        rw [HS.out, HR.out.1]
        exact ⟨rfl, HR.out.2⟩
    · obtain rfl : i = m := by omega
      clear hlt
      go_wp2_with fail
      go_ret
      rw [HI.out.1]
      exact ⟨rfl, HI.out.2⟩
theorem bstart_any (a : AA) (fp : Option Nat) (s : AS) (Y : Thing) (n : Nat) (w0 w : World) (hL : Lab w0 w (memA a fp s Y)) (hk : a.Ok s) (hA : ASnd s n) (hn : n < 800000000) :
    Calls Tryz.prog 48 #[.pointer (some ⟨a.ab, 0, none⟩)] w fun e w' =>
      e = .returned (.tuple #[.int .i64 (((s.dels a.ss.length).voices (fmtB a.K a.M) a.ss.length).1.length : Nat), .int .i64 (short ((s.dels a.ss.length).voices (fmtB a.K a.M) a.ss.length).1.length (quo a.K a.M) : Nat)]) ∧ Lab w0 w' (memA a fp ((s.dels a.ss.length).voices (fmtB a.K a.M) a.ss.length).2 Y) := by
  have HL := Lib.hid hL
  have HK := Lib.hid (And.intro hk hA)
  obtain ⟨m, hm⟩ : ∃ m, a.ss.length = m := ⟨_, rfl⟩
  have HN := Lib.hid (aN_any a w0 w hL.left)
  rw [hm] at HN ⊢
  have hm2 : m ≤ 255 := by have := hk.n; have := hk.n255; omega
  have HM := Lib.hid hm
  have iv : ∀ (x p : Value) (w : World), (invoke (.fn (.method "Delete") #[]) #[.iface 42 x, p]).run Tryz.prog w = .ok (.enter 108 #[x, p]) w := fun x p w => by kernel_rfl
  clear hL hk hA hm
  go_enter Tryz.func48, Tryz.ntmps48
  go_wp2_with fail
  refine HN.out.mono ?_; rintro e w' ⟨rfl, rfl⟩
  go_wp2_with fail
  go_loopw [12] (fun v9 wr => ∃ (i : Nat), i ≤ m ∧ v9 = .int .i64 (i : Nat) ∧ Hid (Lab w0 wr (memA a fp (s.dels i) Y))) (fun v9 _ => (m - intOf v9).toNat)
  case atStart => exact ⟨0, by omega, rfl, HL⟩
  case round =>
    obtain ⟨i, hi, rfl, HI⟩ := hrel
    by_cases hlt : i < m
    · have hlt' : (i : Int) < (m : Int) := by omega
      have HKI := Lib.hid (show a.Ok (s.dels i) ∧ ASnd (s.dels i) (n + i) from ⟨HK.out.1.of (AS.dels_len ..), HK.out.2.dels i⟩)
      obtain ⟨sa, hs⟩ : ∃ sa, a.ss[i]? = some sa := ⟨_, List.getElem?_eq_getElem (by rw [HM.out]; exact hlt)⟩
      have HSA := Lib.hid hs
      clear hs
      go_wp2_with fail
      refine (adisk_any a i sa HSA.out w0 _ HI.out.left).mono ?_; rintro e w' ⟨rfl, rfl⟩
      go_wp2_with fail
      refine (Lab.adelete HI.out HKI.out.1 HKI.out.2 (by omega) HSA.out tmpP (by decide)).mono ?_; rintro e w1 ⟨rfl, hL⟩
      have L1 := Lib.hid (show Lab w0 w1 (memA a fp (s.dels (i + 1)) Y) from hL)
      clear hL
      go_wp2_with fail
      exact ⟨⟨i + 1, by omega, by go_num, L1⟩, by simp [intOf]; omega⟩
    · obtain rfl : i = m := by omega
      clear hlt
      have HKI := Lib.hid (show a.Ok (s.dels i) ∧ ASnd (s.dels i) (n + i) from ⟨HK.out.1.of (AS.dels_len ..), HK.out.2.dels i⟩)
      go_wp2_with fail
      refine (avoices_any a fp _ _ (n + i) w0 _ HI.out HKI.out.1 HKI.out.2 (by omega)).mono ?_; rintro e w1 ⟨u, rfl, hL⟩
      rw [HM.out] at hL
      obtain ⟨t, ht⟩ : ∃ t, (s.dels i).voices (fmtB a.K a.M) i = t := ⟨_, rfl⟩
      have hlen : (s.dels i).ds.length = ((s.dels i).voices (fmtB a.K a.M) i).2.ds.length := (AS.voices_len ..).symm
      rw [ht] at hL hlen
      obtain ⟨l, t⟩ := t
      simp only at hL hlen
      obtain ⟨ua, uc, rfl⟩ := Own.slice' (ownT.own hL.left)
      obtain ⟨q, hq⟩ : ∃ q, l.length = q := ⟨_, rfl⟩
      rw [show (ivs (l.map Int.ofNat)).length = q by simp [hq]]
      have HT := Lib.hid (And.intro ht hq)
      have L1 := Lib.hid hL.right
      have HK2 := Lib.hid (HKI.out.1.of hlen.symm)
      obtain ⟨k, hkk⟩ : ∃ k, quo a.K a.M = k := ⟨_, rfl⟩
      have HKK := Lib.hid hkk
      clear hL hlen hq ht hkk
      go_wp2_with fail
      refine (aquorum_any a _ HK2.out w0 _ L1.out.left).mono ?_; rintro e w2 ⟨rfl, x2⟩
      rw [HKK.out]
      have L2 := Lib.hid (L1.out.ext x2)
      clear x2
      by_cases h1 : q < k
      · have h1' : (q : Int) < (k : Int) := by omega
        have HF := Lib.hid h1
        clear h1
        go_wp2_with fail
        go_ret2
        rw [HT.out.1, HT.out.2, HKK.out, short, if_pos HF.out]
        exact ⟨rfl, L2.out⟩
      · have h1' : (k : Int) ≤ (q : Int) := by omega
        have HF := Lib.hid h1
        clear h1
        go_wp2_with fail
        go_ret2
        rw [HT.out.1, HT.out.2, HKK.out, short, if_neg HF.out]
        exact ⟨rfl, L2.out⟩
end Go.Proofs.YthkbbcdnmdjhdaaGreat
