/-
  Format, Voice, Save, Voices with whatever number, of a pair's array and of its reference; Shape, the reference's Quorum.
-/
import Derived.Test.YthkbbcdnmdjhdaaGreatHtA
import Derived.Laws.Rows
/-! XHtI: Format, Voice, Save, Voices with whatever number, of a pair's array and of its reference; Shape, the reference's Quorum. -/
namespace Go.Proofs.YthkbbcdnmdjhdaaGreat
open Go.RowKit Dk
set_option maxRecDepth 100000
set_option maxHeartbeats 4000000
attribute [local go_sem] min_int2 max_int2 bstr_toList

theorem AS.saveI_in {s : AS} {i : Nat} (p : Path) (b : List UInt8) (h : i < s.ds.length) : s.saveI (i : Nat) p b = s.save i p b := by
  unfold AS.saveI
  rw [if_pos ⟨by omega, by omega⟩]; rfl
theorem AS.saveI_out {s : AS} {i : Int} (p : Path) (b : List UInt8) (h : ¬ (0 ≤ i ∧ i < s.ds.length)) : s.saveI i p b = (1, s) := by
  unfold AS.saveI
  rw [if_neg h]
theorem AS.voiceI_in {s : AS} {i : Nat} (b : List UInt8) (h : i < s.ds.length) : s.voiceI (i : Nat) b = s.voice i b := by
  unfold AS.voiceI
  rw [if_pos ⟨by omega, by omega⟩]; rfl
theorem AS.voiceI_out {s : AS} {i : Int} (b : List UInt8) (h : ¬ (0 ≤ i ∧ i < s.ds.length)) : s.voiceI i b = ((false, 1), s) := by
  unfold AS.voiceI
  rw [if_neg h]
section
variable {w0 w : World} {P : PA} {s t : AS} {Y : Thing} {n : Nat}
theorem pformat_a (hL : Lab w0 w (memP P s t Y)) (hk : P.A.Ok s) (hA : ASnd s n) (hn : n < 1000000000) (i : Int) :
    Calls Tryz.prog 29 #[.pointer (some ⟨P.A.ab, 0, none⟩), .int .i64 i] w fun e w' => e = .returned (.int .i64 ((s.saveI i fmtP (fmtB P.A.K P.A.M i.toNat)).1 : Nat)) ∧ Lab w0 w' (memP P (s.saveI i fmtP (fmtB P.A.K P.A.M i.toNat)).2 t Y) := by
  by_cases h : 0 ≤ i ∧ i < s.ds.length
  · obtain ⟨k, rfl⟩ := Int.eq_ofNat_of_zero_le h.1
    have hks : k < s.ds.length := by omega
    refine (aformat_any P.A (some P.f) s _ n k w0 w (hL.ent memP_in) hk hA hn (by rw [← hk.len]; exact hks)).mono ?_
    rintro e w' ⟨k1, k2⟩
    rw [AS.saveI_in _ _ hks]
    exact ⟨k1, k2.ent memP_out⟩
  · refine (aformat_no P.A i w0 w (memP.arr hL) (by rw [← hk.len]; exact h)).mono ?_
    rintro e w' ⟨k1, rfl⟩
    rw [AS.saveI_out _ _ h]
    exact ⟨k1, hL⟩
theorem psave_a (hL : Lab w0 w (memP P s t Y)) (hk : P.A.Ok s) (hA : ASnd s n) (hn : n < 1000000000) (i : Int) (p : Path) (v : Value) (b : List UInt8) (hp : p.length ≤ maxLen) (hv : Bytes w v b) (hb : b.length ≤ 140737488351232) :
    Calls Tryz.prog 33 #[.pointer (some ⟨P.A.ab, 0, none⟩), .int .i64 i, .string (bstr p), v] w fun e w' => e = .returned (.int .i64 ((s.saveI i p b).1 : Nat)) ∧ Lab w0 w' (memP P (s.saveI i p b).2 t Y) := by
  by_cases h : 0 ≤ i ∧ i < s.ds.length
  · obtain ⟨k, rfl⟩ := Int.eq_ofNat_of_zero_le h.1
    have hks : k < s.ds.length := by omega
    refine (asave_any P.A (some P.f) s _ n k p v b w0 w (hL.ent memP_in) hk hA hn (by rw [← hk.len]; exact hks) hp hv hb).mono ?_
    rintro e w' ⟨k1, k2⟩
    rw [AS.saveI_in _ _ hks]
    exact ⟨k1, k2.ent memP_out⟩
  · refine (asave_no P.A i _ v w0 w (memP.arr hL) (by rw [← hk.len]; exact h)).mono ?_
    rintro e w' ⟨k1, rfl⟩
    rw [AS.saveI_out _ _ h]
    exact ⟨k1, hL⟩
theorem pvoice_a (hL : Lab w0 w (memP P s t Y)) (hk : P.A.Ok s) (hA : ASnd s n) (hn : n < 1000000000) (i : Int) :
    Calls Tryz.prog 31 #[.pointer (some ⟨P.A.ab, 0, none⟩), .int .i64 i] w fun e w' => e = .returned (.tuple #[.bool (s.voiceI i (fmtB P.A.K P.A.M i.toNat)).1.1, .int .i64 ((s.voiceI i (fmtB P.A.K P.A.M i.toNat)).1.2 : Nat)]) ∧ Lab w0 w' (memP P (s.voiceI i (fmtB P.A.K P.A.M i.toNat)).2 t Y) := by
  by_cases h : 0 ≤ i ∧ i < s.ds.length
  · obtain ⟨k, rfl⟩ := Int.eq_ofNat_of_zero_le h.1
    have hks : k < s.ds.length := by omega
    refine (avoice_any P.A (some P.f) s _ n k w0 w (hL.ent memP_in) hk hA hn (by rw [← hk.len]; exact hks)).mono ?_
    rintro e w' ⟨k1, k2⟩
    rw [AS.voiceI_in _ hks]
    exact ⟨k1, k2.ent memP_out⟩
  · refine (avoice_no P.A i w0 w (memP.arr hL) (by rw [← hk.len]; exact h)).mono ?_
    rintro e w' ⟨k1, rfl⟩
    rw [AS.voiceI_out _ h]
    exact ⟨k1, hL⟩
theorem pvoices_a (hL : Lab w0 w (memP P s t Y)) (hk : P.A.Ok s) (hA : ASnd s n) (hn : n < 900000000) :
    Calls Tryz.prog 36 #[.pointer (some ⟨P.A.ab, 0, none⟩)] w fun e w' => ∃ u, e = .returned u ∧ Lab w0 w' ((ownT 3 u (ivs ((s.voices (fmtB P.A.K P.A.M) s.ds.length).1.map Int.ofNat))).star (memP P (s.voices (fmtB P.A.K P.A.M) s.ds.length).2 t Y)) := by
  refine (avoices_any P.A (some P.f) s _ n w0 w (hL.ent memP_in) hk hA hn).mono ?_
  rintro e w' ⟨u, k1, k2⟩
  rw [hk.len]
  exact ⟨u, k1, k2.ent (.star (.refl _) memP_out)⟩
theorem pformat_v (hL : Lab w0 w (memP P s t Y)) (hk : P.V.Ok t) (hA : ASnd t n) (hn : n < 1000000000) (i : Int) :
    Calls Tryz.prog 30 #[.pointer (some ⟨P.V.ab, 0, none⟩), .int .i64 i] w fun e w' => e = .returned (.int .i64 ((t.saveI i fmtP (fmtB P.V.K P.V.M i.toNat)).1 : Nat)) ∧ Lab w0 w' (memP P s (t.saveI i fmtP (fmtB P.V.K P.V.M i.toNat)).2 Y) := by
  by_cases h : 0 ≤ i ∧ i < t.ds.length
  · obtain ⟨k, rfl⟩ := Int.eq_ofNat_of_zero_le h.1
    have hks : k < t.ds.length := by omega
    refine (rvformat_any P.V (some P.g) t _ n k w0 w (hL.ent memP_inV) hk hA hn (by rw [← hk.len]; exact hks)).mono ?_
    rintro e w' ⟨k1, k2⟩
    rw [AS.saveI_in _ _ hks]
    exact ⟨k1, k2.ent memP_outV⟩
  · refine (rvformat_no P.V i w0 w (memP.varr hL) (by rw [← hk.len]; exact h)).mono ?_
    rintro e w' ⟨k1, rfl⟩
    rw [AS.saveI_out _ _ h]
    exact ⟨k1, hL⟩
theorem psave_v (hL : Lab w0 w (memP P s t Y)) (hk : P.V.Ok t) (hA : ASnd t n) (hn : n < 1000000000) (i : Int) (p : Path) (v : Value) (b : List UInt8) (hp : p.length ≤ maxLen) (hv : Bytes w v b) (hb : b.length ≤ 140737488351232) :
    Calls Tryz.prog 34 #[.pointer (some ⟨P.V.ab, 0, none⟩), .int .i64 i, .string (bstr p), v] w fun e w' => e = .returned (.int .i64 ((t.saveI i p b).1 : Nat)) ∧ Lab w0 w' (memP P s (t.saveI i p b).2 Y) := by
  by_cases h : 0 ≤ i ∧ i < t.ds.length
  · obtain ⟨k, rfl⟩ := Int.eq_ofNat_of_zero_le h.1
    have hks : k < t.ds.length := by omega
    refine (rvsave_any P.V (some P.g) t _ n k p v b w0 w (hL.ent memP_inV) hk hA hn (by rw [← hk.len]; exact hks) hp hv hb).mono ?_
    rintro e w' ⟨k1, k2⟩
    rw [AS.saveI_in _ _ hks]
    exact ⟨k1, k2.ent memP_outV⟩
  · refine (rvsave_no P.V i _ v w0 w (memP.varr hL) (by rw [← hk.len]; exact h)).mono ?_
    rintro e w' ⟨k1, rfl⟩
    rw [AS.saveI_out _ _ h]
    exact ⟨k1, hL⟩
theorem pvoice_v (hL : Lab w0 w (memP P s t Y)) (hk : P.V.Ok t) (hA : ASnd t n) (hn : n < 1000000000) (i : Int) :
    Calls Tryz.prog 32 #[.pointer (some ⟨P.V.ab, 0, none⟩), .int .i64 i] w fun e w' => e = .returned (.tuple #[.bool (t.voiceI i (fmtB P.V.K P.V.M i.toNat)).1.1, .int .i64 ((t.voiceI i (fmtB P.V.K P.V.M i.toNat)).1.2 : Nat)]) ∧ Lab w0 w' (memP P s (t.voiceI i (fmtB P.V.K P.V.M i.toNat)).2 Y) := by
  by_cases h : 0 ≤ i ∧ i < t.ds.length
  · obtain ⟨k, rfl⟩ := Int.eq_ofNat_of_zero_le h.1
    have hks : k < t.ds.length := by omega
    refine (rvvoice_any P.V (some P.g) t _ n k w0 w (hL.ent memP_inV) hk hA hn (by rw [← hk.len]; exact hks)).mono ?_
    rintro e w' ⟨k1, k2⟩
    rw [AS.voiceI_in _ hks]
    exact ⟨k1, k2.ent memP_outV⟩
  · refine (rvvoice_no P.V i w0 w (memP.varr hL) (by rw [← hk.len]; exact h)).mono ?_
    rintro e w' ⟨k1, rfl⟩
    rw [AS.voiceI_out _ h]
    exact ⟨k1, hL⟩
theorem pvoices_v (hL : Lab w0 w (memP P s t Y)) (hk : P.V.Ok t) (hA : ASnd t n) (hn : n < 900000000) :
    Calls Tryz.prog 37 #[.pointer (some ⟨P.V.ab, 0, none⟩)] w fun e w' => ∃ u, e = .returned u ∧ Lab w0 w' ((ownT 3 u (ivs ((t.voices (fmtB P.V.K P.V.M) t.ds.length).1.map Int.ofNat))).star (memP P s (t.voices (fmtB P.V.K P.V.M) t.ds.length).2 Y)) := by
  refine (rvvoices_any P.V (some P.g) t _ n w0 w (hL.ent memP_inV) hk hA hn).mono ?_
  rintro e w' ⟨u, k1, k2⟩
  rw [hk.len]
  exact ⟨u, k1, k2.ent (.star (.refl _) memP_outV)⟩
end
theorem rquorum_any (K M : Nat) (B : Int) (hK : K ≤ 255) (hM : M ≤ 255) (w : World) :
    Calls Tryz.prog 40 #[.agg #[.int .i64 K, .int .i64 M, .int .i64 B]] w fun e w' => e = .returned (.int .i64 (quo K M : Nat)) ∧ Ext w w' := by
  obtain ⟨m, hm⟩ : ∃ m, K + M = m := ⟨_, rfl⟩
  have hx := (Ext.refl w).alloc (Nat.le_refl _) (.cells #[.int .i64 K, .int .i64 M, .int .i64 B] 23)
  have HE := Lib.hid (show ((quo K M : Nat) : Int) = max (K : Int) ((m : Int) / 2 + 1) by unfold quo; rw [hm]; omega)
  have e0 : (K : Int) + (M : Int) = (m : Int) := by omega
  have e2 : IntKind.i64.wrap ((m : Int) / 2) = (m : Int) / 2 := by rw [IntKind.wrap_i64]; omega
  have e1 : IntKind.i64.wrap ((m : Int) / 2 + 1) = (m : Int) / 2 + 1 := by rw [IntKind.wrap_i64]; omega
  have HX := Lib.hid hx
  have hm2 : m ≤ 510 := by omega
  clear hx hm
  go_enter Tryz.func40, Tryz.ntmps40
  go_wp2_with fail
  go_ret
  exact ⟨by rw [HE.out]; rfl, HX.out⟩
theorem ashape_any (a : AA) (w0 w : World) (h : Lab w0 w (arrT a)) : Calls Tryz.prog 42 #[.pointer (some ⟨a.ab, 0, none⟩)] w fun e w' => e = .returned (.agg #[.int .i64 a.K, .int .i64 a.M, .int .i64 a.B]) ∧ Ext w w' := by
  obtain ⟨c0, c1, c2, -, -⟩ := arrT.cells h
  obtain ⟨ab, K, M, B, cb, gs, gc, ss⟩ := a
  simp only at c0 c1 c2 ⊢
  have x1 : Ext w (w.alloc (.cells #[.int .i64 0, .int .i64 0, .int .i64 0] 23)) := (Ext.refl w).alloc (Nat.le_refl _) _
  have d0 := x1.cell c0
  have d1 := x1.cell c1
  have d2 := x1.cell c2
  clear h c0 c1 c2 x1
  go_enter Tryz.func42, Tryz.ntmps42
  go_wp2_with fail
  (try simp only [Exit.inBlock, Exit.then])
  refine bodyPost_ret (results_cell_row rfl _ _ w.heap.size 23 #[.int .i64 K, .int .i64 M, .int .i64 B] (0, 0) _ rfl ?hg Tryz.underlying23 rfl (by kernel_rfl)) rfl ?_
  · exact heap_alloc_new w _
  · exact ⟨rfl, (Ext.refl w).alloc (Nat.le_refl _) _⟩
end Go.Proofs.YthkbbcdnmdjhdaaGreat
