/-
  A slice of hits that came in.
-/
import Derived.Test.YthkbbcdnmdjhdaaGreatD2
/-! XHt: A slice of hits that came in. -/
namespace Go.Proofs.YthkbbcdnmdjhdaaGreat
open Go.RowKit Dk Go.ChangeShapes Go.WideShapes
set_option maxRecDepth 100000
set_option maxHeartbeats 4000000
attribute [local go_sem] min_int2 max_int2 bstr_toList

/-- What befalls a disk. -/
structure Hit where
  at_ : Int
  d : Deed
def HitAt (w : World) (b o : Nat) (x : Hit) : Prop := w.cell? ⟨b, o, none⟩ = some (.int .i64 x.at_) ∧ DeedAt w b (o + 1) x.d
def Hit.ok (x : Hit) : Prop := (-9223372036854775808 ≤ x.at_ ∧ x.at_ ≤ 9223372036854775807) ∧ x.d.ok
def Hits (w : World) (v : Value) (l : List Hit) : Prop := ∃ a cap, v = .slice a l.length cap ∧ l.length ≤ cap ∧ ∀ j x, l[j]? = some x → x.ok ∧ ∃ b o, a = some ⟨b, o, none⟩ ∧ HitAt w b (o + j * 6) x
theorem HitAt.ext {w w' : World} {b o : Nat} {x : Hit} (h : HitAt w b o x) (hx : Ext w w') : HitAt w' b o x := ⟨hx.cell h.1, h.2.ext hx⟩
theorem Hits.ext {w w' : World} {v : Value} {l : List Hit} (h : Hits w v l) (hx : Ext w w') : Hits w' v l := by
  obtain ⟨a, cap, e, hl, hc⟩ := h
  exact ⟨a, cap, e, hl, fun j x hj => by
    obtain ⟨ok, b, o, e1, e2⟩ := hc j x hj
    exact ⟨ok, b, o, e1, e2.ext hx⟩⟩
theorem Hits.form {w : World} {v : Value} {l : List Hit} (h : Hits w v l) : ∃ a c, v = .slice a l.length c := by obtain ⟨a, cap, e, -⟩ := h; exact ⟨a, cap, e⟩
theorem Hits.at {w : World} {a : Option Addr} {n c : Nat} {l : List Hit} (h : Hits w (.slice a n c) l) {j : Nat} {x : Hit} (hj : l[j]? = some x) : x.ok ∧ ∃ b o, a = some ⟨b, o, none⟩ ∧ HitAt w b (o + j * 6) x := by
  obtain ⟨a', cap, e, hl, hc⟩ := h
  simp only [Value.slice.injEq] at e
  obtain ⟨rfl, -, -⟩ := e
  exact hc j x hj

section
variable {H : Type} {enc : TypeId × Value → H} {w : World} {base : Nat} {spare : Nat → Bool} {held : Bool}
theorem in_hits {fuel : Nat} {cs : List Value} {x : DataW H × List MemPlace} (h : DataW.trod enc Tryz.prog w base spare held fuel 71 cs = some x) : ∃ v l, cs = [v] ∧ Hits w v l ∧ l.length ≤ maxLen := by
  rcases Go.Deep.open_slice Tryz.underlying71 h with ⟨rfl, _⟩ | ⟨a, len, cap, m, n, D, Pl, rfl, _, hl, hcap, hm, _, hel⟩
  · exact ⟨_, [], rfl, ⟨none, 0, rfl, Nat.le_refl _, by simp⟩, by simp⟩
  · have hlm : len ≤ m := by rw [hm]; split <;> omega
    have hC : Program.cellsOf Tryz.prog 76 = 6 := by kernel_rfl
    have hpl : ∀ i, i < len → a = ⟨a.block, a.off, none⟩ := by
      intro i hi
      obtain ⟨cs', h1, -⟩ := hel 0 (by omega)
      rw [hC] at h1
      obtain ⟨_, hlen, hat⟩ := World.cells?_some h1
      have g0 := hat 0 (by omega)
      have e0 : (a.add (0 * 6)).add 0 = a := by simp [Addr.add]
      rw [e0, List.getElem?_eq_getElem (by omega)] at g0
      exact addr_plain g0
    have one : ∀ i, i < len → ∃ y : Hit, y.ok ∧ ∃ b o, a = ⟨b, o, none⟩ ∧ HitAt w b (o + i * 6) y := by
      intro i hi
      obtain ⟨cs', h1, h2⟩ := hel i (by omega)
      rw [hC] at h1
      obtain ⟨ys, k', _, _, h3', h4', h5'⟩ := DataW.trod_struct Tryz.underlying76 h2
      obtain ⟨_, hlen, hat⟩ := World.cells?_some h1
      match cs', hlen with
      | [c9, c0, c1, c2, c3, c4], _ =>
        have g9 := hat 0 (by omega)
        have g0 := hat 1 (by omega)
        have g1 := hat 2 (by omega)
        have g2 := hat 3 (by omega)
        have g3 := hat 4 (by omega)
        have g4 := hat 5 (by omega)
        have k0 : Program.cellsOf Tryz.prog 3 = 1 := by kernel_rfl
        have k2 : Program.cellsOf Tryz.prog 9 = 1 := by kernel_rfl
        have k4 : Program.cellsOf Tryz.prog 24 = 1 := by kernel_rfl
        have k5 : Program.cellsOf Tryz.prog 74 = 5 := by kernel_rfl
        have hy2 : ys.length = 2 := h4'
        have f9 : DataW.trod enc Tryz.prog w base spare held k' 3 [c9] = ys[0]? := by simpa [k0] using h5' 0 _ rfl
        have f5 : DataW.trod enc Tryz.prog w base spare held k' 74 [c0, c1, c2, c3, c4] = ys[1]? := by simpa [k0, k5] using h5' 1 _ rfl
        rw [List.getElem?_eq_getElem (by omega)] at f9 f5
        obtain ⟨xs, k, _, _, h3, h4, h5⟩ := DataW.trod_struct Tryz.underlying74 f5
        have hx5 : xs.length = 5 := h4
        have f0 : DataW.trod enc Tryz.prog w base spare held k 3 [c0] = xs[0]? := by simpa [k0] using h5 0 _ rfl
        have f1 : DataW.trod enc Tryz.prog w base spare held k 3 [c1] = xs[1]? := by simpa [k0] using h5 1 _ rfl
        have f2 : DataW.trod enc Tryz.prog w base spare held k 9 [c2] = xs[2]? := by simpa [k2] using h5 2 _ rfl
        have f3 : DataW.trod enc Tryz.prog w base spare held k 9 [c3] = xs[3]? := by simpa [k2] using h5 3 _ rfl
        have f4 : DataW.trod enc Tryz.prog w base spare held k 24 [c4] = xs[4]? := by simpa [k4] using h5 4 _ rfl
        rw [List.getElem?_eq_getElem (by omega)] at f0 f1 f2 f3 f4
        obtain ⟨z9, e9, -, w9⟩ := DataW.trod_int Tryz.underlying3 f9
        obtain ⟨z0, e0, -, w0⟩ := DataW.trod_int Tryz.underlying3 f0
        obtain ⟨z1, e1, -, w1⟩ := DataW.trod_int Tryz.underlying3 f1
        obtain ⟨s2, e2, -, w2⟩ := DataW.trod_string Tryz.underlying9 f2
        obtain ⟨s3, e3, -, w3⟩ := DataW.trod_string Tryz.underlying9 f3
        obtain ⟨v4, l4, e4, w4, w5⟩ := in_bytes Tryz.underlying24 Tryz.underlying5 (by kernel_rfl) f4
        simp only [List.cons.injEq, and_true] at e0 e1 e2 e3 e4 e9
        subst e0 e1 e2 e3 e4 e9
        have ha := hpl i hi
        rw [ha] at g0 g1 g2 g3 g4 g9
        rw [Addr.add_lit, Addr.add_lit] at g0 g1 g2 g3 g4 g9
        obtain ⟨da, dc, ed⟩ := Bytes.slice w4
        subst ed
        refine ⟨⟨z9, ⟨z0, z1, s2.data.toList, s3.data.toList, l4⟩⟩, ⟨int_of_wf w9, int_of_wf w0, int_of_wf w1, w2, w3, w5⟩, a.block, a.off, ha, ?_, da, dc, ?_, ?_, ?_, ?_, ?_, w4⟩
        · exact g9
        · exact g0
        · exact g1
        · have : s2 = bstr s2.data.toList := by unfold bstr; simp
          rw [← this]; exact g2
        · have : s3 = bstr s3.data.toList := by unfold bstr; simp
          rw [← this]; exact g3
        · exact g4
    obtain ⟨l, hl1, hl2⟩ := list_choose (p := fun (i : Nat) (y : Hit) => y.ok ∧ ∃ b o, a = ⟨b, o, none⟩ ∧ HitAt w b (o + i * 6) y) (List.range len) (fun i u hu => by
      have hi := (List.getElem?_eq_some_iff.1 hu).1
      rw [List.length_range] at hi
      rw [List.getElem?_range hi] at hu
      cases hu
      exact one i hi)
    rw [List.length_range] at hl1
    refine ⟨_, l, rfl, ⟨some a, cap, by rw [hl1], by rw [hl1]; exact hl, fun j y hj => ?_⟩, by omega⟩
    have hjl : j < len := by have := (List.getElem?_eq_some_iff.1 hj).1; omega
    obtain ⟨ok, b, o, e1, e2⟩ := hl2 j j y (List.getElem?_range hjl) hj
    exact ⟨ok, b, o, by rw [e1], e2⟩
end
end Go.Proofs.YthkbbcdnmdjhdaaGreat
