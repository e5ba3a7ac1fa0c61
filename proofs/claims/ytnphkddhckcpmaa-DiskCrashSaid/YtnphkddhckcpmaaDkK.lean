/-
  A slice of deeds that came in; Room.
-/
import Derived.Test.YtnphkddhckcpmaaDkJ
import Derived.Test.YtnphkddhckcpmaaIn
import Derived.Deep.Fields
namespace Go.Proofs.Ytnphkddhckcpmaa
open Go.RowKit Dk Go.ChangeShapes Go.WideShapes
set_option maxRecDepth 100000
set_option maxHeartbeats 4000000
attribute [local go_sem] min_int2 max_int2 bstr_toList

/-- What is done on a disk. -/
structure Deed where
  act : Int
  n : Int
  a : Path
  b : Path
  data : List UInt8
def DeedAt (w : World) (b o : Nat) (x : Deed) : Prop := ∃ da dc, w.cell? ⟨b, o, none⟩ = some (.int .i64 x.act) ∧ w.cell? ⟨b, o + 1, none⟩ = some (.int .i64 x.n) ∧ w.cell? ⟨b, o + 2, none⟩ = some (.string (bstr x.a)) ∧
  w.cell? ⟨b, o + 3, none⟩ = some (.string (bstr x.b)) ∧ w.cell? ⟨b, o + 4, none⟩ = some (.slice da x.data.length dc) ∧ Bytes w (.slice da x.data.length dc) x.data
def Deed.ok (x : Deed) : Prop := (-9223372036854775808 ≤ x.act ∧ x.act ≤ 9223372036854775807) ∧ (-9223372036854775808 ≤ x.n ∧ x.n ≤ 9223372036854775807) ∧ x.a.length ≤ maxLen ∧ x.b.length ≤ maxLen ∧ x.data.length ≤ maxLen
def Deeds (w : World) (v : Value) (l : List Deed) : Prop := ∃ a cap, v = .slice a l.length cap ∧ l.length ≤ cap ∧ ∀ j x, l[j]? = some x → x.ok ∧ ∃ b o, a = some ⟨b, o, none⟩ ∧ DeedAt w b (o + j * 5) x
theorem DeedAt.ext {w w' : World} {b o : Nat} {x : Deed} (h : DeedAt w b o x) (hx : Ext w w') : DeedAt w' b o x := by
  obtain ⟨da, dc, h0, h1, h2, h3, h4, h5⟩ := h
  exact ⟨da, dc, hx.cell h0, hx.cell h1, hx.cell h2, hx.cell h3, hx.cell h4, Cells.ext h5 hx⟩
theorem Deeds.ext {w w' : World} {v : Value} {l : List Deed} (h : Deeds w v l) (hx : Ext w w') : Deeds w' v l := by
  obtain ⟨a, cap, e, hl, hc⟩ := h
  exact ⟨a, cap, e, hl, fun j x hj => by
    obtain ⟨ok, b, o, e1, e2⟩ := hc j x hj
    exact ⟨ok, b, o, e1, e2.ext hx⟩⟩
theorem Deeds.form {w : World} {v : Value} {l : List Deed} (h : Deeds w v l) : ∃ a c, v = .slice a l.length c := by obtain ⟨a, cap, e, -⟩ := h; exact ⟨a, cap, e⟩
theorem Deeds.at {w : World} {a : Option Addr} {n c : Nat} {l : List Deed} (h : Deeds w (.slice a n c) l) {j : Nat} {x : Deed} (hj : l[j]? = some x) : x.ok ∧ ∃ b o, a = some ⟨b, o, none⟩ ∧ DeedAt w b (o + j * 5) x := by
  obtain ⟨a', cap, e, hl, hc⟩ := h
  simp only [Value.slice.injEq] at e
  obtain ⟨rfl, -, -⟩ := e
  exact hc j x hj

section
variable {H : Type} {enc : TypeId × Value → H} {w : World} {base : Nat} {spare : Nat → Bool} {held : Bool}
theorem in_deeds {fuel : Nat} {cs : List Value} {x : DataW H × List MemPlace} (h : DataW.trod enc Try.prog w base spare held fuel 22 cs = some x) : ∃ v l, cs = [v] ∧ Deeds w v l ∧ l.length ≤ maxLen := by
  rcases Go.Deep.open_slice Try.underlying22 h with ⟨rfl, _⟩ | ⟨a, len, cap, m, n, D, Pl, rfl, _, hl, hcap, hm, _, hel⟩
  · exact ⟨_, [], rfl, ⟨none, 0, rfl, Nat.le_refl _, by simp⟩, by simp⟩
  · have hlm : len ≤ m := by rw [hm]; split <;> omega
    have hC : Program.cellsOf Try.prog 32 = 5 := by kernel_rfl
    have hpl : ∀ i, i < len → a = ⟨a.block, a.off, none⟩ := by
      intro i hi
      obtain ⟨cs', h1, -⟩ := hel 0 (by omega)
      rw [hC] at h1
      obtain ⟨_, hlen, hat⟩ := World.cells?_some h1
      have g0 := hat 0 (by omega)
      have e0 : (a.add (0 * 5)).add 0 = a := by simp [Addr.add]
      rw [e0, List.getElem?_eq_getElem (by omega)] at g0
      exact addr_plain g0
    have one : ∀ i, i < len → ∃ y : Deed, y.ok ∧ ∃ b o, a = ⟨b, o, none⟩ ∧ DeedAt w b (o + i * 5) y := by
      intro i hi
      obtain ⟨cs', h1, h2⟩ := hel i (by omega)
      rw [hC] at h1
      obtain ⟨xs, k, _, _, h3, h4, h5⟩ := DataW.trod_struct Try.underlying32 h2
      obtain ⟨_, hlen, hat⟩ := World.cells?_some h1
      match cs', hlen with
      | [c0, c1, c2, c3, c4], _ =>
        have g0 := hat 0 (by omega)
        have g1 := hat 1 (by omega)
        have g2 := hat 2 (by omega)
        have g3 := hat 3 (by omega)
        have g4 := hat 4 (by omega)
        have k0 : Program.cellsOf Try.prog 3 = 1 := by kernel_rfl
        have k2 : Program.cellsOf Try.prog 9 = 1 := by kernel_rfl
        have k4 : Program.cellsOf Try.prog 30 = 1 := by kernel_rfl
        have hx5 : xs.length = 5 := h4
        have f0 : DataW.trod enc Try.prog w base spare held k 3 [c0] = xs[0]? := by simpa [k0] using h5 0 _ rfl
        have f1 : DataW.trod enc Try.prog w base spare held k 3 [c1] = xs[1]? := by simpa [k0] using h5 1 _ rfl
        have f2 : DataW.trod enc Try.prog w base spare held k 9 [c2] = xs[2]? := by simpa [k2] using h5 2 _ rfl
        have f3 : DataW.trod enc Try.prog w base spare held k 9 [c3] = xs[3]? := by simpa [k2] using h5 3 _ rfl
        have f4 : DataW.trod enc Try.prog w base spare held k 30 [c4] = xs[4]? := by simpa [k4] using h5 4 _ rfl
        rw [List.getElem?_eq_getElem (by omega)] at f0 f1 f2 f3 f4
        obtain ⟨z0, e0, -, w0⟩ := DataW.trod_int Try.underlying3 f0
        obtain ⟨z1, e1, -, w1⟩ := DataW.trod_int Try.underlying3 f1
        obtain ⟨s2, e2, -, w2⟩ := DataW.trod_string Try.underlying9 f2
        obtain ⟨s3, e3, -, w3⟩ := DataW.trod_string Try.underlying9 f3
        obtain ⟨v4, l4, e4, w4, w5⟩ := in_bytes Try.underlying30 Try.underlying5 (by kernel_rfl) f4
        simp only [List.cons.injEq, and_true] at e0 e1 e2 e3 e4
        subst e0 e1 e2 e3 e4
        have ha := hpl i hi
        rw [ha] at g0 g1 g2 g3 g4
        rw [Addr.add_lit, Addr.add_lit] at g0 g1 g2 g3 g4
        obtain ⟨da, dc, ed⟩ := Bytes.slice w4
        subst ed
        refine ⟨⟨z0, z1, s2.data.toList, s3.data.toList, l4⟩, ⟨int_of_wf w0, int_of_wf w1, w2, w3, w5⟩, a.block, a.off, ha, da, dc, ?_, ?_, ?_, ?_, ?_, w4⟩
        · exact g0
        · exact g1
        · have : s2 = bstr s2.data.toList := by unfold bstr; simp
          rw [← this]; exact g2
        · have : s3 = bstr s3.data.toList := by unfold bstr; simp
          rw [← this]; exact g3
        · exact g4
    obtain ⟨l, hl1, hl2⟩ := list_choose (p := fun (i : Nat) (y : Deed) => y.ok ∧ ∃ b o, a = ⟨b, o, none⟩ ∧ DeedAt w b (o + i * 5) y) (List.range len) (fun i u hu => by
      have hi := (List.getElem?_eq_some_iff.1 hu).1
      rw [List.length_range] at hi
      rw [List.getElem?_range hi] at hu
      cases hu
      exact one i hi)
    rw [List.length_range] at hl1
    refine ⟨_, l, rfl, ⟨some a, cap, by rw [hl1], by rw [hl1]; exact hl, fun j y hj => ?_⟩, by omega⟩
    have hjl : j < len := by have := (List.getElem?_eq_some_iff.1 hj).1; omega
    obtain ⟨ok, b, o, e1, e2⟩ := hl2 j j y (List.getElem?_range hjl) hj
    exact ⟨ok, b, o, by rw [e1], e2⟩
end
end Go.Proofs.Ytnphkddhckcpmaa
