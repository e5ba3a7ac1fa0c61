/-
  How long what comes in can be: from the statement's own bound on each slice. No statement about the program.
-/
import Derived.Test.YtdmdcgcmappliaaIn
import Derived.Handed
namespace Go.Proofs.Ytdmdcgcmappliaa
open Go.RowKit Go.WideShapes
section
variable {H : Type} {enc : TypeId × Value → H} {P : Program} {w : World} {base : Nat} {spare : Nat → Bool} {held : Bool}
theorem weightsAll_of {e : TypeId} : ∀ {l : List (DataW H)} {d : DataW H}, d ∈ l → ∀ n ∈ d.weights P e, n ∈ DataW.weightsAll P e l
  | x :: l, d, hd, n, hn => by
    show n ∈ x.weights P e ++ DataW.weightsAll P e l
    rcases List.mem_cons.1 hd with rfl | hd
    · exact List.mem_append_left _ hn
    · exact List.mem_append_right _ (weightsAll_of hd n hn)
theorem rows_bound {t b e : TypeId} (ht : P.underlying t = some (.slice b)) (hb : P.underlying b = some (.slice e)) (hcb : P.cellsOf b = 1) (hby : P.bytesOf e = 1) {fuel : Nat} {v : Value} {x : DataW H × List MemPlace}
    (h : DataW.trod enc P w base spare held fuel t [v] = some x) (hw : ∀ n ∈ x.1.weights P t, n ≤ reachBytes) {l : List (List UInt8)} (hV : BRows w v l) : ∀ r ∈ l, r.length ≤ 140737488351232 := by
  intro r hr
  obtain ⟨i, hi⟩ := List.getElem?_of_mem hr
  obtain ⟨vs, ⟨a0, cap0, e0, h1, h2, h3⟩, hvl, hrow⟩ := hV
  have hil := (List.getElem?_eq_some_iff.1 hi).1
  have hiv : i < vs.length := by omega
  obtain ⟨ad, ea, hc⟩ := h3 i vs[i] (List.getElem?_eq_getElem hiv)
  have hB := hrow i vs[i] r (List.getElem?_eq_getElem hiv) hi
  rcases Go.Deep.open_slice ht h with ⟨e1, _⟩ | ⟨a, len, cap, m, n, D, Pl, e1, _, hlc, hcap, hm, hx, hel⟩
  · rw [e0, ea] at e1
    simp at e1
  · simp only [List.cons.injEq, and_true] at e1
    rw [e0, ea] at e1
    simp only [Value.slice.injEq, Option.some.injEq] at e1
    obtain ⟨rfl, e2, e3⟩ := e1
    have hlm : len ≤ m := by rw [hm]; split <;> omega
    obtain ⟨cs', k1, k2⟩ := hel i (by omega)
    rw [hcb, Nat.mul_one] at k1
    obtain ⟨u, rfl, hu⟩ := cells_one k1
    rw [hc] at hu
    obtain rfl := Option.some.inj hu
    obtain ⟨a', c', eu, g1, g2, _⟩ := hB
    rcases Go.Deep.open_slice hb k2 with ⟨f1, _⟩ | ⟨a2, len2, cap2, m2, n2, D2, Pl2, f1, _, _, _, hm2, hx2, _⟩
    · rw [eu] at f1
      simp only [List.cons.injEq, and_true, Value.slice.injEq] at f1
      simp at f1
      have := f1.2.1
      subst this
      simp
    · rw [eu] at f1
      simp only [List.cons.injEq, and_true, Value.slice.injEq] at f1
      have hrl : r.length = len2 := by simpa using f1.2.1
      have hmem : D i ∈ (List.range len).map D := List.mem_map.2 ⟨i, List.mem_range.2 (by omega), rfl⟩
      have hDi : D i = .slice ((List.range len2).map D2) ((List.range (m2 - len2)).map fun j => D2 (len2 + j)) := congrArg Prod.fst hx2
      have hw1 : (len2 + (m2 - len2)) * 1 ∈ (D i).weights P b := by
        rw [hDi]
        unfold DataW.weights
        simp only [hb]
        rw [hby]
        simp
      have hw2 : (len2 + (m2 - len2)) * 1 ∈ x.1.weights P t := by
        rw [hx]
        unfold DataW.weights
        simp only [ht]
        exact List.mem_cons_of_mem _ (List.mem_append_left _ (weightsAll_of hmem _ hw1))
      have := hw _ hw2
      unfold reachBytes at this
      omega
theorem rows_bound_len {t b : TypeId} (ht : P.underlying t = some (.slice b)) (hby : 1 ≤ P.bytesOf b) {fuel : Nat} {v : Value} {x : DataW H × List MemPlace}
    (h : DataW.trod enc P w base spare held fuel t [v] = some x) (hw : ∀ n ∈ x.1.weights P t, n ≤ reachBytes) {l : List (List UInt8)} (hV : BRows w v l) : l.length ≤ 140737488351232 := by
  obtain ⟨vs, ⟨a0, cap0, e0, h1, h2, h3⟩, hvl, -⟩ := hV
  rcases Go.Deep.open_slice ht h with ⟨e1, _⟩ | ⟨a, len, cap, m, n, D, Pl, e1, _, hlc, hcap, hm, hx, hel⟩
  · rw [e0] at e1
    simp only [List.cons.injEq, and_true, Value.slice.injEq] at e1
    omega
  · rw [e0] at e1
    simp only [List.cons.injEq, and_true, Value.slice.injEq] at e1
    have hw2 : (len + (m - len)) * P.bytesOf b ∈ x.1.weights P t := by
      rw [hx]
      unfold DataW.weights
      simp only [ht]
      simp
    have h4 := hw _ hw2
    unfold reachBytes at h4
    have h5 : len ≤ (len + (m - len)) * P.bytesOf b := Nat.le_trans (Nat.le_add_right _ _) (Nat.le_mul_of_pos_right _ hby)
    omega
end

theorem returns_sized {H : Type} {enc : TypeId × Value → H} {a : Assume} {C : Checked} {os : Os} {f : FuncId} {fn : Func} {s : ChangeSpec} {conds : List PathCond} {apart fresh handsOn again : Bool}
    (own : ownKnob C.prog.godebug = none) (started : os.Started) (noInit : C.prog.inits.idxOf? f = none) (hfn : C.prog.funcs[f]? = some fn)
    (witness : ∃ (w : World) (tape : Tape) (i : Input), w.os = os ∧ (w.forCall tape i).Shaped C.prog ∧ i.vars = [] ∧ Input.okWide C.prog (w.forCall tape i) .any w.heap.size f i ∧
      s.pre6 enc C.prog fn conds apart (w.forCall tape i).memory i.args ∧ a.holds C.prog (lone (Frame.enter C.prog f i.args .normal) [] (w.forCall tape i)))
    (contract : ∀ (W : World) (base : Nat) (args : Array Value) (ds gs : List (DataW H)) (before : List MemPlace),
      (∀ (j : Nat) t v, fn.params[j]? = some t → args[j]? = some v → Value.okWide C.prog W .any base t v) →
      DataW.Whole enc C.prog fn.params.toList s.vars apart W args.toList ds gs before →
      conds.all (PathCond.test C.prog ⟨fn.params.toList, ds, s.plain.varTypes C.prog, gs⟩) = true →
      (DataW.weightsEach C.prog (fn.params.toList ++ s.plain.varTypes C.prog) (ds ++ gs)).all (· ≤ reachBytes) = true →
      a.holds C.prog (lone (Frame.enter C.prog f args .normal) [] W) →
      Calls C.prog f args W fun e W' => ∃ v, e = .returned v ∧ s.post enc C.prog fn apart fresh handsOn again W args v W') :
    ReturnsInHanded a C os f .any (s.pre6 enc C.prog fn conds apart) (s.post enc C.prog fn apart fresh handsOn again) := by
  obtain ⟨w, tape, i, a1, a2, a3, a4, a5, a6⟩ := witness
  have h := returnsInHanded_of_change_and (enc := enc) (s := s) (conds := conds) (apart := apart) (fresh := fresh) (handsOn := handsOn) (again := again) (a := a) (X := fun _ _ => True) (fun _ _ _ _ h => h) own started noInit hfn ⟨w, tape, i, a1, a2, a3, a4, ⟨⟨a5.1, trivial⟩, a5.2⟩, a6⟩
    (fun W base args ds gs before hval hW hc hw _ hh => contract W base args ds gs before hval hW hc hw hh)
  have e : (fun w args => (s.pre enc C.prog fn conds apart w args ∧ True) ∧ sizedMet enc C.prog fn (OpenSpec.ofChange s) apart w args) = s.pre6 enc C.prog fn conds apart := by
    funext w args
    unfold ChangeSpec.pre6
    rw [and_true]
  rw [e] at h
  exact h
end Go.Proofs.Ytdmdcgcmappliaa
