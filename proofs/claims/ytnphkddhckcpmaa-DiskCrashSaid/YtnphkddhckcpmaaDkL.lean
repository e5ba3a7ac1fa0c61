/-
  Room: are deeds few and small?
-/
import Derived.Test.YtnphkddhckcpmaaDkK
namespace Go.Proofs.Ytnphkddhckcpmaa
open Go.RowKit Dk
set_option maxRecDepth 100000
set_option maxHeartbeats 4000000
attribute [local go_sem] min_int2 max_int2 bstr_toList

def Deed.small (x : Deed) : Prop := x.a.length ≤ 1000 ∧ x.b.length ≤ 1000 ∧ x.data.length ≤ 5000
theorem room_any (v : Value) (l : List Deed) (m : Nat) (d : Bool) (hm : m ≤ 1000) (hd : d = true ↔ (l.length ≤ m ∧ ∀ x ∈ l, x.small)) (hl : l.length ≤ maxLen) (w : World) (hV : Deeds w v l) :
    Calls Try.prog 13 #[v, .int .i64 m] w fun e w' => e = .returned (.bool d) ∧ w = w' := by
  obtain ⟨a, c, rfl⟩ := hV.form
  have HV := Lib.hid hV
  have HD := Lib.hid hd
  unfold maxLen at hl
  clear hV hd
  go_enter Try.func13, Try.ntmps13
  by_cases h0 : l.length ≤ m
  case neg =>
    have q1 : (m : Int) < (l.length : Int) := by omega
    have hdf : d = false := by
      cases d
      · rfl
      · exact absurd (HD.out.1 rfl).1 h0
    subst hdf
    clear h0
    go_wp2_with fail
    go_ret
    exact ⟨rfl, rfl⟩
  have q1 : (l.length : Int) ≤ (m : Int) := by omega
  go_wp2_with fail
  go_loop [5] (fun v5 => ∃ i : Nat, i ≤ l.length ∧ v5 = .int .i64 i ∧ Hid (∀ j x, j < i → l[j]? = some x → x.small)) (fun v5 => (l.length - intOf v5).toNat)
  case atStart => exact ⟨0, by omega, rfl, Lib.hid fun j x h => by omega⟩
  case round =>
    obtain ⟨i, hi, rfl, hJ⟩ := hrel
    by_cases hlt : i < l.length
    · have hlt' : (i : Int) < (l.length : Int) := by omega
      have hx : l[i]? = some l[i] := List.getElem?_eq_getElem hlt
      obtain ⟨x, hxx⟩ : ∃ x, l[i] = x := ⟨_, rfl⟩
      rw [hxx] at hx
      obtain ⟨ok, b, o, rfl, da, dc, c0, c1, c2, c3, c4, -⟩ := HV.out.at hx
      obtain ⟨xd, xn, xa, xb, xt⟩ := x
      obtain ⟨-, -, k1, k2, k3⟩ := ok
      simp only at c2 c3 c4 k1 k2 k3
      unfold maxLen at k1 k2 k3
      have HX := Lib.hid hx
      have sa : (bstr xa).size = xa.length := rfl
      have sb : (bstr xb).size = xb.length := rfl
      clear hx hxx
      by_cases hs : xa.length ≤ 1000 ∧ xb.length ≤ 1000 ∧ xt.length ≤ 5000
      · have r1 : (xa.length : Int) ≤ 1000 := by omega
        have r2 : (xb.length : Int) ≤ 1000 := by omega
        have r3 : (xt.length : Int) ≤ 5000 := by omega
        have HS := Lib.hid hs
        clear hs
        go_wp2_with fail
        exact ⟨⟨i + 1, by omega, by go_num, Lib.hid fun j y hj hy => by
          by_cases e : j = i
          · subst e
            rw [HX.out] at hy
            cases hy
            exact HS.out
          · exact hJ.out j y (by omega) hy⟩, by simp [intOf]; omega⟩
      · have hdf : d = false := by
          cases d
          · rfl
          · exact absurd ((HD.out.1 rfl).2 _ (List.mem_of_getElem? HX.out)) hs
        subst hdf
        by_cases ha : xa.length ≤ 1000
        · have r1 : (xa.length : Int) ≤ 1000 := by omega
          by_cases hb : xb.length ≤ 1000
          · have r2 : (xb.length : Int) ≤ 1000 := by omega
            have r3 : (5000 : Int) < (xt.length : Int) := by omega
            clear hs
            go_wp2_with fail
            go_ret
            exact ⟨rfl, rfl⟩
          · have r2 : (1000 : Int) < (xb.length : Int) := by omega
            clear hs
            go_wp2_with fail
            go_ret
            exact ⟨rfl, rfl⟩
        · have r1 : (1000 : Int) < (xa.length : Int) := by omega
          clear hs
          go_wp2_with fail
          go_ret
          exact ⟨rfl, rfl⟩
    · have hdt : d = true := HD.out.2 ⟨h0, fun x hx => by
        obtain ⟨j, hj⟩ := List.getElem?_of_mem hx
        exact hJ.out j x (by have := (List.getElem?_eq_some_iff.1 hj).1; omega) hj⟩
      subst hdt
      clear hJ
      go_wp2_with fail
      go_ret
      exact ⟨rfl, rfl⟩
end Go.Proofs.Ytnphkddhckcpmaa
