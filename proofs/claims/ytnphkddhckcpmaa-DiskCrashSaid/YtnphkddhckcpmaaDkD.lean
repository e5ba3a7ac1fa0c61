/-
  open: an operation on a file that is there.
-/
import Derived.Test.YtnphkddhckcpmaaDkC
namespace Go.Proofs.Ytnphkddhckcpmaa
open Go.RowKit Dk
set_option maxRecDepth 100000
set_option maxHeartbeats 4000000
attribute [local go_sem] min_int2 max_int2 bstr_toList

theorem info_str : (Try.prog.info? 9).map (fun i => (i.zero, i.size, i.bytes)) = some (some (.string ByteArray.empty), 1, 16) := by kernel_rfl
theorem pvs_one (ps : List Path) : ∀ u ∈ pvs ps, u.oneCell' = true := fun u hu => by obtain ⟨p, -, rfl⟩ := List.mem_map.1 hu; rfl
theorem Strs.one (w : World) (p : Path) : Strs (w.alloc (.cells #[.string (bstr p)] 9)) (.slice (some ⟨w.heap.size, 0, none⟩) 1 1) [p] := Own.new w 0 9 #[.string (bstr p)] (Nat.zero_le _) (by unfold maxLen; simp)
namespace Dk
def begun (z : Option FS) (d : DS) (ps : List Path) : DS := (begins z d ps).2.2
theorem begins_fs (z : Option FS) (d : DS) (ps : List Path) : (begins z d ps).2.2.fs = d.fs := by
  unfold begins; repeat (first | rfl | split)
/-- open's error. -/
def opens (z : Option FS) (d : DS) (p : Path) (more : List Path) : Nat := if (begins z d (p :: more)).1 = 0 then (if (get p d.fs).isSome then 0 else 6) else (begins z d (p :: more)).1
end Dk
def openQ (z : Option FS) (es : L Ent) (d : DS) (p : Path) (more : List Path) : Option Nat := if (begins z d (p :: more)).1 = 0 then (get p es).map (·.q) else none
def OpenOut (s m : Nat) (fp : Option Nat) (z : Option FS) (es : L Ent) (d : DS) (p : Path) (more : List Path) (w : World) (e : Ending) (w' : World) : Prop :=
  e = .returned (.tuple #[fptr (openQ z es d p more), .int .i64 (opens z d p more : Nat)]) ∧ FzAt w' fp (begins z d (p :: more)).2.1 ∧ Raw w' s fp m es (begins z d (p :: more)).2.2 ∧ Chg (fun b => b = s ∨ fp = some b) w w'
theorem open_any (s m : Nat) (fp : Option Nat) (z : Option FS) (es : L Ent) (d : DS) (p : Path) (more : List Path) (v : Value) (w : World) (h : Raw w s fp m es d) (hz : FzAt w fp z) (hzo : zops z < 1099511627776)
    (hp : p.length ≤ maxLen) (hps : more.length ≤ 1000) (hpl : ∀ p ∈ more, p.length ≤ maxLen) (hv : Strs w v more) :
    Calls Try.prog 39 #[.pointer (some ⟨s, 0, none⟩), .string (bstr p), v] w (OpenOut s m fp z es d p more w) := by
  obtain ⟨va, vc, rfl⟩ := hv.form
  have H := Lib.hid h
  have HZ := Lib.hid hz
  have HPL := Lib.hid (And.intro hp hpl)
  have o1 := Strs.one w p
  have x1 : Ext w (w.alloc (.cells #[.string (bstr p)] 9)) := (Ext.refl w).alloc (Nat.le_refl _) _
  have HA := Lib.hid (And.intro o1 (And.intro (Own.ext hv x1) x1))
  clear h hz hv hp hpl o1 x1
  go_enter Try.func39, Try.ntmps39
  go_wp2_with (at_builtin; refine list_of_wp rfl fun K hK => wp_appx _ _ 39 39 9 (.string ByteArray.empty) 16 rfl Try.underlying39 info_str rfl rfl HA.out.1 rfl (Cells.src Try.underlying39 (Own.cells HA.out.2.1) (pvs_one _)) (by simp [pvs, maxLen]; omega) (by simp [pvs]; omega) (Nat.zero_le _) (more.length + 1) (by simp [pvs]; omega) fun ad c w7 ha => hK _ _ ?_)
  obtain ⟨ha1, ha2, -⟩ := ha
  have x7 : Ext w w7 := Below.grown HA.out.2.2 ha2 (HA.out.2.2.size) (fun k hk => by cases hk; exact Nat.le_refl _)
  have hs7 : Strs w7 (.slice ad (more.length + 1) c) (p :: more) := by
    have e : pvs [p] ++ pvs more = pvs (p :: more) := rfl
    rw [e] at ha1
    exact ha1.mono (Nat.zero_le _)
  have HS7 := Lib.hid hs7
  have H7 := Lib.hid (H.out.chg (Chg.of_ext x7 (fun _ => False)) (fun _ _ h => h))
  have HZ7 := Lib.hid (HZ.out.chg (Chg.of_ext x7 (fun _ => False)) (fun _ _ h => h))
  have X7 := Lib.hid x7
  clear ha1 ha2 hs7 x7
  go_wp2_with fail
  refine (begin_any s m fp z es d (p :: more) _ _ H7.out HZ7.out hzo (by simp; omega) (fun q hq => by rcases List.mem_cons.1 hq with rfl | h; exact HPL.out.1; exact HPL.out.2 q h) HS7.out).mono ?_; rintro e w8 ⟨rfl, hz8, h8, hg8, -⟩
  have HZ8 := Lib.hid hz8
  have H8 := Lib.hid h8
  have HG8 := Lib.hid (Chg.after X7.out hg8)
  clear hz8 h8 hg8
  obtain ⟨n, hn⟩ : ∃ n, (begins z d (p :: more)).1 = n := ⟨_, rfl⟩
  rw [hn]
  have HN := Lib.hid hn
  clear hn
  by_cases h0 : n = 0
  · subst h0
    have q1 : (((0 : Nat) : Int) != 0) = false := rfl
    have c2 := H8.out.row.cell (i := 2) (v := .map (some m)) rfl
    have hl := H8.out.map.look p HPL.out.1
    rw [qs_get] at hl
    have HO : Hid (opens z d p more = if (get p d.fs).isSome then 0 else 6) := Lib.hid (by unfold opens; rw [HN.out, if_pos rfl])
    have HF : Hid ((get p d.fs).isSome = (get p es).isSome) := Lib.hid (by rw [H.out.fs, fils_get]; simp)
    cases hg : get p es with
    | none =>
      rw [hg] at hl
      have HG := Lib.hid hg
      clear hg
      go_wp2_with fail
      go_ret2
      exact ⟨by unfold openQ; rw [HN.out, if_pos rfl, HG.out, HO.out, HF.out, HG.out]; rfl, HZ8.out, H8.out, HG8.out⟩
    | some x =>
      rw [hg] at hl
      have HG := Lib.hid hg
      clear hg
      go_wp2_with fail
      go_ret2
      exact ⟨by unfold openQ; rw [HN.out, if_pos rfl, HG.out, HO.out, HF.out, HG.out]; rfl, HZ8.out, H8.out, HG8.out⟩
  · have q1 : ((n : Int) != 0) = true := by simp; omega
    have HO : Hid (opens z d p more = n) := Lib.hid (by unfold opens; rw [HN.out, if_neg h0])
    have H0 := Lib.hid h0
    clear h0
    go_wp2_with fail
    go_ret2
    exact ⟨by unfold openQ; rw [HN.out, if_neg H0.out, HO.out]; rfl, HZ8.out, H8.out, HG8.out⟩
end Go.Proofs.Ytnphkddhckcpmaa
