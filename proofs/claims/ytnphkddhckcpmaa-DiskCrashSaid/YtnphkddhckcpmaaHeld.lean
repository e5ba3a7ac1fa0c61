/-
  Drawn regions told by list and slot: an operation that yields under S, or is not wanted, is taken first. No statement about the program.
-/
import Derived.Test.YtnphkddhckcpmaaUntil
import Derived.Deep.RegionHeld
namespace Go.Proofs.Ytnphkddhckcpmaa
theorem put_listH {L : List Value} {d : List Deferred} {x : Option Nat} {j : Nat} (h : x = some j) (v : Value) : (⟨L.toArray, d⟩ : Act).put x v = ⟨(L.set j v).toArray, d⟩ := by subst h; simp [Act.put]
section
variable {P : Program} {md : Region.Mode} {ops : Array Oper} {Q : Exit → Act → World → Prop} {S : World → Prop} {i : Nat} {oi : Oper} {v : Value} {fuel : Nat} {listed : Array Bool} {L : List Value} {d : List Deferred} {w : World}
theorem wpH_take (hi : ops[i]? = some oi) {j : Nat} (hd : oi.dst = some j)
    (hs : Region.noSelect ops = true) (hf : Region.free md ops listed i = true) (hr : (Region.ready md ops listed).contains i = true)
    (hQ : ∀ c a w, Q (.panic c) (a.put oi.dst v) w → Q (.panic c) a w) (hy : YieldsIf P ops S oi v ⟨L.toArray, d⟩) (hS : S w)
    (h : wpAnyH P md ops Q S fuel (listed.setIfInBounds i true) ⟨(L.set j v).toArray, d⟩ w) : wpAnyH P md ops Q S (fuel + 1) listed ⟨L.toArray, d⟩ w :=
  wpAnyH_take hi hs hf hr hQ hy hS (by rw [put_listH hd]; exact h)
/-- The same where S holds till operation k comes (XUntil). -/
theorem wpU_pureH {k : Nat} (hi : ops[i]? = some oi) {j : Nat} (hd : oi.dst = some j)
    (hs : Region.noSelect ops = true) (hf : Region.free md ops listed i = true) (hr : (Region.ready md ops listed).contains i = true) (hki : k ≠ i)
    (hQ : ∀ c a w, Q (.panic c) (a.put oi.dst v) w → Q (.panic c) a w) (hS : listed.getD k true = false → S w) (hy : YieldsIf P ops (fun _ => True) oi v ⟨L.toArray, d⟩)
    (h : wpU P md ops Q S k fuel (listed.setIfInBounds i true) ⟨(L.set j v).toArray, d⟩ w) : wpU P md ops Q S k (fuel + 1) listed ⟨L.toArray, d⟩ w :=
  wpU_pure hi hs hf hr hki hQ hS hy (by rw [put_listH hd]; exact h)
theorem wpU_loadH {k : Nat} (hi : ops[i]? = some oi) {j : Nat} (hd : oi.dst = some j)
    (hs : Region.noSelect ops = true) (hf : Region.free md ops listed i = true) (hr : (Region.ready md ops listed).contains i = true) (hki : k ≠ i) (hw : Waits md ops k i = true) (hl : listed.getD k true = false)
    (hQ : ∀ c a w, Q (.panic c) (a.put oi.dst v) w → Q (.panic c) a w) (hS : S w) (hy : YieldsIf P ops S oi v ⟨L.toArray, d⟩)
    (h : wpU P md ops Q S k fuel (listed.setIfInBounds i true) ⟨(L.set j v).toArray, d⟩ w) : wpU P md ops Q S k (fuel + 1) listed ⟨L.toArray, d⟩ w :=
  wpU_load hi hs hf hr hki hw hl hQ hS hy (by rw [put_listH hd]; exact h)
theorem wpU_putH {k j : Nat} {x : Option Nat} (h : x = some j) (hk : wpU P md ops Q S k fuel listed ⟨(L.set j v).toArray, d⟩ w) : wpU P md ops Q S k fuel listed ((⟨L.toArray, d⟩ : Act).put x v) w := by rw [put_listH h]; exact hk
end
end Go.Proofs.Ytnphkddhckcpmaa
