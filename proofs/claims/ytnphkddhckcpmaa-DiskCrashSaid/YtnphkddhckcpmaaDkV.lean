/-
  Texts: two rows of the same strings.
-/
import Derived.Test.YtnphkddhckcpmaaDkU
namespace Go.Proofs.Ytnphkddhckcpmaa
open Go.RowKit Dk
set_option maxRecDepth 100000
set_option maxHeartbeats 4000000
attribute [local go_sem] min_int2 max_int2 bstr_toList

theorem texts_same (v u : Value) (ps : List Path) (w : World) (hv : Strs w v ps) (hu : Strs w u ps) (hl : ps.length ≤ maxLen) :
    Calls Try.prog 22 #[v, u] w fun e w' => e = .returned (.bool true) ∧ Ext w w' := by
  obtain ⟨a, c, rfl⟩ := hv.form
  obtain ⟨a2, c2, rfl⟩ := hu.form
  have HV := Lib.hid hv
  have HU := Lib.hid hu
  have hl' : ps.length ≤ 9223372036854775807 := hl
  clear hv hu hl
  go_enter Try.func22, Try.ntmps22
  go_wp2_with fail
  go_loopw [5] (fun v5 wr => ∃ i : Nat, i ≤ ps.length ∧ v5 = .int .i64 (i : Nat) ∧ Ext w wr) (fun v5 _ => (ps.length - intOf v5).toNat)
  case atStart => exact ⟨0, by omega, rfl, Ext.refl _⟩
  case round =>
    obtain ⟨i, hi, rfl, hE⟩ := hrel
    by_cases hlt : i < ps.length
    · have hlt' : (i : Int) < (ps.length : Int) := by omega
      obtain ⟨b1, o1, rfl, d1⟩ := Strs.at (Own.ext HV.out hE) hlt
      obtain ⟨b2, o2, rfl, d2⟩ := Strs.at (Own.ext HU.out hE) hlt
      obtain ⟨p, hp⟩ : ∃ p, ps[i] = p := ⟨_, rfl⟩
      rw [hp] at d1 d2
      have HE := Lib.hid (Ext.trans hE (Ext.of_drawn wr 1))
      have S0 : (fun w' : World => w'.cell? ⟨b1, o1 + i, none⟩ = some (.string (bstr p)) ∧ w'.cell? ⟨b2, o2 + i, none⟩ = some (.string (bstr p))) wr.drew := ⟨d1, d2⟩
      clear d1 d2 hp hE
      go_wp2_with fail
      go_region_held3 (fun w' : World => w'.cell? ⟨b1, o1 + i, none⟩ = some (.string (bstr p)) ∧ w'.cell? ⟨b2, o2 + i, none⟩ = some (.string (bstr p))) (assumption) (fail)
      go_wp2_with fail
      exact ⟨⟨i + 1, by omega, by go_num, HE.out⟩, by simp [intOf]; omega⟩
    · obtain rfl : i = ps.length := by omega
      clear hlt
      go_wp2_with fail
      go_ret
      exact ⟨rfl, hE⟩
end Go.Proofs.Ytnphkddhckcpmaa
