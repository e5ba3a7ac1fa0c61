/-
  An array's Save, Format, Voice, Voices.
-/
import Derived.Test.YthkbbcdnmdjhdaaGreatArA
import Derived.Test.YthkbbcdnmdjhdaaGreatA6
import Derived.Test.YthkbbcdnmdjhdaaGreatA5
/-! XArB: An array's Save, Format, Voice, Voices. -/
namespace Go.Proofs.YthkbbcdnmdjhdaaGreat
open Go.RowKit Dk
set_option maxRecDepth 100000
set_option maxHeartbeats 4000000
attribute [local go_sem] min_int2 max_int2 bstr_toList

theorem asave_any (a : AA) (fp : Option Nat) (s : AS) (Y : Thing) (n : Nat) (i : Nat) (p : Path) (v : Value) (b : List UInt8) (w0 w : World) (hL : Lab w0 w (memA a fp s Y)) (hk : a.Ok s) (hA : ASnd s n) (hn : n < 1000000000) (hi : i < a.ss.length) (hp : p.length ≤ maxLen) (hv : Bytes w v b) (hb : b.length ≤ 140737488351232) :
    Calls Tryz.prog 33 #[.pointer (some ⟨a.ab, 0, none⟩), .int .i64 i, .string (bstr p), v] w fun e w' => e = .returned (.int .i64 ((s.save i p b).1 : Nat)) ∧ Lab w0 w' (memA a fp (s.save i p b).2 Y) := by
  obtain ⟨sa, hs⟩ : ∃ sa, a.ss[i]? = some sa := ⟨_, List.getElem?_eq_getElem hi⟩
  obtain ⟨va, vc, rfl⟩ := hv.slice
  obtain ⟨q, hq⟩ : ∃ q, b.length = q := ⟨_, rfl⟩
  rw [hq] at hv hb ⊢
  have HV := Lib.hid (And.intro hv (And.intro hb hq))
  have HL := Lib.hid hL
  have HK := Lib.hid (And.intro hk (And.intro hA hs))
  have HP := Lib.hid hp
  obtain ⟨t1, ht1⟩ : ∃ t1, (s.op i fun z d => writes z d tmpP b) = t1 := ⟨_, rfl⟩
  obtain ⟨t2, ht2⟩ : ∃ t2, (t1.2.op i fun z d => syncs z d tmpP) = t2 := ⟨_, rfl⟩
  obtain ⟨t3, ht3⟩ : ∃ t3, (t2.2.op i fun z d => renames z d tmpP p) = t3 := ⟨_, rfl⟩
  have HT := Lib.hid (And.intro ht1 (And.intro ht2 ht3))
  have HR := Lib.hid (show s.save i p b = if t1.1 ≠ 0 then t1 else if t2.1 ≠ 0 then t2 else t3 by unfold AS.save; rw [ht1, ht2, ht3])
  have hA1 := hA.write i tmpP b
  have hA2 := hA1.sync i tmpP
  rw [ht1] at hA1 hA2
  rw [ht2] at hA2
  have hk1 : a.Ok t1.2 := hk.of (by rw [← ht1]; exact AS.op_len ..)
  have hk2 : a.Ok t2.2 := hk1.of (by rw [← ht2]; exact AS.op_len ..)
  have HA := Lib.hid (And.intro hA1 (And.intro hA2 (And.intro hk1 hk2)))
  have iw : ∀ (x p b : Value) (w : World), (invoke (.fn (.method "Write") #[]) #[.iface 42 x, p, b]).run Tryz.prog w = .ok (.enter 45 #[x, p, b]) w := fun x p b w => by kernel_rfl
  have is : ∀ (x p : Value) (w : World), (invoke (.fn (.method "Sync") #[]) #[.iface 42 x, p]).run Tryz.prog w = .ok (.enter 106 #[x, p]) w := fun x p w => by kernel_rfl
  have ir : ∀ (x p q : Value) (w : World), (invoke (.fn (.method "Rename") #[]) #[.iface 42 x, p, q]).run Tryz.prog w = .ok (.enter 107 #[x, p, q]) w := fun x p q w => by kernel_rfl
  clear hL hk hA hs hp hv hb hq ht1 ht2 ht3 hA1 hA2 hk1 hk2 hi
  go_enter Tryz.func33, Tryz.ntmps33
  go_wp2_with fail
  refine (adisk_any a i sa HK.out.2.2 w0 _ HL.out.left).mono ?_; rintro e w' ⟨rfl, rfl⟩
  go_wp2_with fail
  refine (Lab.awrite HL.out HK.out.1 HK.out.2.1 (by omega) HK.out.2.2 tmpP _ b (by decide) HV.out.1 (by rw [HV.out.2.2]; exact HV.out.2.1)).mono ?_; rintro e w1 ⟨rfl, hL⟩
  rw [HT.out.1] at hL ⊢
  have L1 := Lib.hid hL
  clear hL
  obtain ⟨r1, s1⟩ := t1
  simp only at L1 HA HR HT ⊢
  by_cases h1 : r1 = 0
  case neg =>
    have q1 : ((r1 : Int) != 0) = true := by simp; omega
    rw [if_pos h1] at HR
    clear h1
    go_wp2_with fail
    go_ret
    rw [HR.out]
    exact ⟨rfl, L1.out⟩
  subst h1
  rw [if_neg (by simp)] at HR
  go_wp2_with fail
  refine (Lab.async L1.out HA.out.2.2.1 HA.out.1 (by omega) HK.out.2.2 tmpP (by decide)).mono ?_; rintro e w2 ⟨rfl, hL⟩
  rw [HT.out.2.1] at hL ⊢
  have L2 := Lib.hid hL
  clear hL L1
  obtain ⟨r2, s2⟩ := t2
  simp only at L2 HA HR HT ⊢
  by_cases h2 : r2 = 0
  case neg =>
    have q1 : ((r2 : Int) != 0) = true := by simp; omega
    rw [if_pos h2] at HR
    clear h2
    go_wp2_with fail
    go_ret
    rw [HR.out]
    exact ⟨rfl, L2.out⟩
  subst h2
  rw [if_neg (by simp)] at HR
  go_wp2_with fail
  refine (Lab.arename L2.out HA.out.2.2.2 HA.out.2.1 (by omega) HK.out.2.2 tmpP p (by decide) HP.out).mono ?_; rintro e w3 ⟨rfl, hL⟩
  rw [HT.out.2.2] at hL ⊢
  have L3 := Lib.hid hL
  clear hL L2
  go_wp2_with fail
  go_ret
  rw [HR.out]
  exact ⟨rfl, L3.out⟩
theorem asave_no (a : AA) (i : Int) (pv v : Value) (w0 w : World) (hL : Lab w0 w (arrT a)) (hi : ¬ (0 ≤ i ∧ i < a.ss.length)) :
    Calls Tryz.prog 33 #[.pointer (some ⟨a.ab, 0, none⟩), .int .i64 i, pv, v] w fun e w' => e = .returned (.int .i64 1) ∧ w = w' := by
  have HL := Lib.hid hL
  have HI := Lib.hid hi
  clear hL hi
  go_enter Tryz.func33, Tryz.ntmps33
  go_wp2_with fail
  refine (adisk_no a i HI.out w0 _ HL.out).mono ?_; rintro e w' ⟨rfl, rfl⟩
  go_wp2_with fail
  go_ret
  exact ⟨rfl, rfl⟩
theorem aformat_any (a : AA) (fp : Option Nat) (s : AS) (Y : Thing) (n : Nat) (i : Nat) (w0 w : World) (hL : Lab w0 w (memA a fp s Y)) (hk : a.Ok s) (hA : ASnd s n) (hn : n < 1000000000) (hi : i < a.ss.length) :
    Calls Tryz.prog 29 #[.pointer (some ⟨a.ab, 0, none⟩), .int .i64 i] w fun e w' => e = .returned (.int .i64 ((s.save i fmtP (fmtB a.K a.M i)).1 : Nat)) ∧ Lab w0 w' (memA a fp (s.save i fmtP (fmtB a.K a.M i)).2 Y) := by
  have HL := Lib.hid hL
  have HK := Lib.hid (And.intro hk (And.intro hA hi))
  obtain ⟨m, hm⟩ : ∃ m, a.ss.length = m := ⟨_, rfl⟩
  have HN : Hid (Calls Tryz.prog 41 #[.pointer (some ⟨a.ab, 0, none⟩)] w fun e w' => e = .returned (.int .i64 (m : Nat)) ∧ w = w') := Lib.hid (by rw [← hm]; exact aN_any a w0 w hL.left)
  have q1 : (i : Int) < (m : Int) := by omega
  have q2 : 0 ≤ (i : Int) := by omega
  clear hL hk hA hi hm
  go_enter Tryz.func29, Tryz.ntmps29
  go_wp2_with fail
  refine HN.out.mono ?_; rintro e w' ⟨rfl, rfl⟩
  go_wp2_with fail
  obtain ⟨c0, c1, -, -, -⟩ := arrT.cells HL.out.left
  refine (words_any a.ab a.K a.M i (by have := HK.out.1.n255; omega) (by have := HK.out.1.n255; omega) (by have := HK.out.1.n255; have := HK.out.1.n; have := HK.out.2.2; omega) _ c0 c1).mono ?_; rintro e w1 ⟨u, rfl, hU, x1⟩
  have L1 := Lib.hid (HL.out.ext x1)
  have HU := Lib.hid hU.cells
  clear hU x1 c0 c1
  go_wp2_with fail
  refine (asave_any a fp s Y n i fmtP _ _ w0 _ L1.out HK.out.1 HK.out.2.1 hn HK.out.2.2 (by decide) HU.out (by show 7 + 4 ≤ _; decide)).mono ?_; rintro e w2 ⟨rfl, hL⟩
  have L2 := Lib.hid hL
  clear hL
  go_wp2_with fail
  go_ret
  exact ⟨rfl, L2.out⟩
theorem aformat_no (a : AA) (i : Int) (w0 w : World) (hL : Lab w0 w (arrT a)) (hi : ¬ (0 ≤ i ∧ i < a.ss.length)) :
    Calls Tryz.prog 29 #[.pointer (some ⟨a.ab, 0, none⟩), .int .i64 i] w fun e w' => e = .returned (.int .i64 1) ∧ w = w' := by
  have HN := Lib.hid (aN_any a w0 w hL)
  obtain ⟨m, hm⟩ : ∃ m, a.ss.length = m := ⟨_, rfl⟩
  rw [hm] at HN hi
  clear hL hm
  by_cases h0 : i < 0
  · go_enter Tryz.func29, Tryz.ntmps29
    go_wp2_with fail
    go_ret
    exact ⟨rfl, rfl⟩
  · have q1 : (m : Int) ≤ i := by omega
    have q0 : 0 ≤ i := by omega
    clear hi h0
    go_enter Tryz.func29, Tryz.ntmps29
    go_wp2_with fail
    refine HN.out.mono ?_; rintro e w' ⟨rfl, rfl⟩
    go_wp2_with fail
    go_ret
    exact ⟨rfl, rfl⟩
theorem avoice_any (a : AA) (fp : Option Nat) (s : AS) (Y : Thing) (n : Nat) (i : Nat) (w0 w : World) (hL : Lab w0 w (memA a fp s Y)) (hk : a.Ok s) (hA : ASnd s n) (hn : n < 1000000000) (hi : i < a.ss.length) :
    Calls Tryz.prog 31 #[.pointer (some ⟨a.ab, 0, none⟩), .int .i64 i] w fun e w' => e = .returned (.tuple #[.bool (s.voice i (fmtB a.K a.M i)).1.1, .int .i64 ((s.voice i (fmtB a.K a.M i)).1.2 : Nat)]) ∧ Lab w0 w' (memA a fp (s.voice i (fmtB a.K a.M i)).2 Y) := by
  obtain ⟨sa, hs⟩ : ∃ sa, a.ss[i]? = some sa := ⟨_, List.getElem?_eq_getElem hi⟩
  have HL := Lib.hid hL
  have HK := Lib.hid (And.intro hk (And.intro hA (And.intro hs hi)))
  obtain ⟨r, hr⟩ : ∃ r, s.read i fmtP = r := ⟨_, rfl⟩
  have HV := Lib.hid (show s.voice i (fmtB a.K a.M i) = (if r.1.1 = 0 then (r.1.2 == fmtB a.K a.M i, 0) else if r.1.1 = 6 then (false, 0) else (false, r.1.1), r.2) by unfold AS.voice; rw [hr])
  have HR := Lib.hid hr
  have ir : ∀ (x p : Value) (w : World), (invoke (.fn (.method "Read") #[]) #[.iface 42 x, p]).run Tryz.prog w = .ok (.enter 105 #[x, p]) w := fun x p w => by kernel_rfl
  clear hL hk hA hs hi hr
  go_enter Tryz.func31, Tryz.ntmps31
  go_wp2_with fail
  refine (adisk_any a i sa HK.out.2.2.1 w0 _ HL.out.left).mono ?_; rintro e w' ⟨rfl, rfl⟩
  go_wp2_with fail
  refine (Lab.aread HL.out HK.out.1 HK.out.2.1 (by omega) HK.out.2.2.1 fmtP (by decide)).mono ?_; rintro e w1 ⟨u, rfl, hL⟩
  rw [HR.out] at hL ⊢
  obtain ⟨⟨r1, rb⟩, s1⟩ := r
  simp only at hL HV ⊢
  obtain ⟨ua, uc, rfl⟩ := Own.slice' (ownT.own hL.left)
  rw [bvs_len] at hL ⊢
  have L1 := Lib.hid hL
  clear hL
  by_cases h0 : r1 = 0
  · subst h0
    rw [if_pos rfl] at HV
    go_wp2_with fail
    obtain ⟨c0, c1, -, -, -⟩ := arrT.cells L1.out.right.left
    refine (words_any a.ab a.K a.M i (by have := HK.out.1.n255; omega) (by have := HK.out.1.n255; omega) (by have := HK.out.1.n255; have := HK.out.1.n; have := HK.out.2.2.2; omega) _ c0 c1).mono ?_; rintro e w2 ⟨v, rfl, hV, x2⟩
    have L2 := Lib.hid (L1.out.ext x2)
    have HW := Lib.hid hV.cells
    clear hV x2 c0 c1
    go_wp2_with fail
    refine (beq_any _ _ rb (fmtB a.K a.M i) (rb == fmtB a.K a.M i) rfl _ (ownT.own L2.out.left).cells HW.out).mono ?_; rintro e w' ⟨rfl, rfl⟩
    go_wp2_with fail
    go_ret2
    rw [HV.out]
    exact ⟨rfl, L2.out.right⟩
  rw [if_neg h0] at HV
  have q1 : ((r1 : Int) == 0) = false := by simp; omega
  by_cases h6 : r1 = 6
  · subst h6
    rw [if_pos rfl] at HV
    clear h0
    go_wp2_with fail
    go_ret2
    rw [HV.out]
    exact ⟨rfl, L1.out.right⟩
  · rw [if_neg h6] at HV
    have q6 : ((r1 : Int) == 6) = false := by simp; omega
    clear h0 h6
    go_wp2_with fail
    go_ret2
    rw [HV.out]
    exact ⟨rfl, L1.out.right⟩
theorem avoice_no (a : AA) (i : Int) (w0 w : World) (hL : Lab w0 w (arrT a)) (hi : ¬ (0 ≤ i ∧ i < a.ss.length)) :
    Calls Tryz.prog 31 #[.pointer (some ⟨a.ab, 0, none⟩), .int .i64 i] w fun e w' => e = .returned (.tuple #[.bool false, .int .i64 1]) ∧ w = w' := by
  have HL := Lib.hid hL
  have HI := Lib.hid hi
  clear hL hi
  go_enter Tryz.func31, Tryz.ntmps31
  go_wp2_with fail
  refine (adisk_no a i HI.out w0 _ HL.out).mono ?_; rintro e w' ⟨rfl, rfl⟩
  go_wp2_with fail
  go_ret2
  exact ⟨rfl, rfl⟩
end Go.Proofs.YthkbbcdnmdjhdaaGreat
