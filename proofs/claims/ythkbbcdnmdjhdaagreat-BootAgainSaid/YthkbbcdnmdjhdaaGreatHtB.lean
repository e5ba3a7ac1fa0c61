/-
  The deeds of hits, gathered in a slice of their own.
-/
import Derived.Test.YthkbbcdnmdjhdaaGreatHt
import Derived.Test.YthkbbcdnmdjhdaaGreatD1
/-! XHtB: The deeds of hits, gathered in a slice of their own. -/
namespace Go.Proofs.YthkbbcdnmdjhdaaGreat
open Go.RowKit Dk
set_option maxRecDepth 100000
set_option maxHeartbeats 4000000

/-- The cells of one deed. -/
def dcs (x : Deed) (a : Option Addr × Nat) : List Value := [.int .i64 x.act, .int .i64 x.n, .string (bstr x.a), .string (bstr x.b), .slice a.1 x.data.length a.2]
theorem dcs_one (x : Deed) (a : Option Addr × Nat) : ∀ u ∈ dcs x a, u.oneCell' = true := by
  unfold dcs
  simp [Value.oneCell']
/-- Where each hit's data lies. -/
def HitsF (w : World) (a : Option Addr) (l : List Hit) (f : Nat → Option Addr × Nat) : Prop :=
  ∀ j x, l[j]? = some x → x.ok ∧ Bytes w (.slice (f j).1 x.d.data.length (f j).2) x.d.data ∧ ∃ b o, a = some ⟨b, o, none⟩ ∧ w.cell? ⟨b, o + j * 6, none⟩ = some (.int .i64 x.at_) ∧ w.cell? ⟨b, o + j * 6 + 1, none⟩ = some (.int .i64 x.d.act) ∧ w.cell? ⟨b, o + j * 6 + 2, none⟩ = some (.int .i64 x.d.n) ∧
    w.cell? ⟨b, o + j * 6 + 3, none⟩ = some (.string (bstr x.d.a)) ∧ w.cell? ⟨b, o + j * 6 + 4, none⟩ = some (.string (bstr x.d.b)) ∧ w.cell? ⟨b, o + j * 6 + 5, none⟩ = some (.slice (f j).1 x.d.data.length (f j).2)
theorem Hits.withF {w : World} {a : Option Addr} {n c : Nat} {l : List Hit} (h : Hits w (.slice a n c) l) : ∃ f, HitsF w a l f := by
  have h1 : ∀ j, ∃ p : Option Addr × Nat, ∀ x, l[j]? = some x → x.ok ∧ Bytes w (.slice p.1 x.d.data.length p.2) x.d.data ∧ ∃ b o, a = some ⟨b, o, none⟩ ∧ w.cell? ⟨b, o + j * 6, none⟩ = some (.int .i64 x.at_) ∧ w.cell? ⟨b, o + j * 6 + 1, none⟩ = some (.int .i64 x.d.act) ∧ w.cell? ⟨b, o + j * 6 + 2, none⟩ = some (.int .i64 x.d.n) ∧
    w.cell? ⟨b, o + j * 6 + 3, none⟩ = some (.string (bstr x.d.a)) ∧ w.cell? ⟨b, o + j * 6 + 4, none⟩ = some (.string (bstr x.d.b)) ∧ w.cell? ⟨b, o + j * 6 + 5, none⟩ = some (.slice p.1 x.d.data.length p.2) := by
    intro j
    cases e : l[j]? with
    | none => exact ⟨(none, 0), fun x h => by cases h⟩
    | some y =>
      obtain ⟨ok, b, o, e1, h0, da, dc, c0, c1, c2, c3, c4, c5⟩ := h.at e
      exact ⟨(da, dc), fun x hx => by cases hx; exact ⟨ok, c5, b, o, e1, h0, c0, c1, c2, c3, c4⟩⟩
  exact Classical.axiomOfChoice h1
theorem HitsF.ext {w w' : World} {a : Option Addr} {l : List Hit} {f : Nat → Option Addr × Nat} (h : HitsF w a l f) (hx : Ext w w') : HitsF w' a l f := fun j x hj => by
  obtain ⟨ok, c5, b, o, e1, h0, c0, c1, c2, c3, c4⟩ := h j x hj
  exact ⟨ok, Cells.ext c5 hx, b, o, e1, hx.cell h0, hx.cell c0, hx.cell c1, hx.cell c2, hx.cell c3, hx.cell c4⟩
/-- The row that the deeds make. -/
def drow (l : List Hit) (f : Nat → Option Addr × Nat) (j : Nat) : List Value := match l[j]? with | some x => dcs x.d (f j) | none => List.replicate 5 (.int .i64 0)
theorem drow_len (l : List Hit) (f : Nat → Option Addr × Nat) (j : Nat) : (drow l f j).length = 5 := by
  unfold drow
  split
  · rfl
  · simp
theorem drow_get {l : List Hit} {j : Nat} {x : Hit} (f : Nat → Option Addr × Nat) (h : l[j]? = some x) : drow l f j = dcs x.d (f j) := by unfold drow; rw [h]
theorem deeds_own {w w0 : World} {a xa : Option Addr} {n xc : Nat} {l : List Hit} {f : Nat → Option Addr × Nat} (hF : HitsF w0 a l f) (hx : Ext w0 w) (hn : n = l.length) (hO : OwnK w 0 74 5 (.slice xa n xc) n ((List.range n).flatMap (drow l f))) : Deeds w (.slice xa n xc) (l.map Hit.d) := by
  subst hn
  rcases hO.forms with ⟨h0, ⟨h1, h2, -⟩ | ⟨g, cap, cur, h1, -, -, h4, -⟩⟩
  · refine ⟨xa, xc, by simp, ?_, fun j x hj => ?_⟩
    · rw [List.length_map, h2]; exact Nat.zero_le _
    · have := (List.getElem?_eq_some_iff.1 hj).1
      rw [List.length_map] at this
      omega
  · simp only [Value.slice.injEq] at h1
    obtain ⟨rfl, -, rfl⟩ := h1
    refine ⟨some ⟨g, 0, none⟩, xc, by simp, by rw [List.length_map]; exact h4, fun j x hj => ?_⟩
    have hjl := (List.getElem?_eq_some_iff.1 hj).1
    rw [List.length_map] at hjl
    rw [List.getElem?_map, List.getElem?_eq_getElem hjl] at hj
    obtain rfl : (l[j]).d = x := Option.some.inj hj
    have hlj : l[j]? = some l[j] := List.getElem?_eq_getElem hjl
    obtain ⟨ok, c5, -⟩ := hF j _ hlj
    have hc : ∀ q u, q < 5 → (dcs (l[j]).d (f j))[q]? = some u → w.cell? ⟨g, 0 + j * 5 + q, none⟩ = some u := fun q u hq hu => by
      have e := flat_at (drow l f) (drow_len l f) l.length j q hjl hq
      rw [drow_get f hlj, hu] at e
      obtain ⟨g', cap', e1, -, -, hcell⟩ := hO.cell e
      simp only [Value.slice.injEq, Option.some.injEq, Addr.mk.injEq, and_true, true_and] at e1
      obtain ⟨rfl, -⟩ := e1
      rw [Nat.zero_add]; exact hcell
    exact ⟨ok.2, g, 0, rfl, (f j).1, (f j).2, hc 0 _ (by decide) rfl, hc 1 _ (by decide) rfl, hc 2 _ (by decide) rfl, hc 3 _ (by decide) rfl, hc 4 _ (by decide) rfl, Cells.ext c5 hx⟩
end Go.Proofs.YthkbbcdnmdjhdaaGreat
