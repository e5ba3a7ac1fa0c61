/-
  Regions that draw their order, in which a cell is read and then written: a read may be taken first, if the cell is as it was till the first write (operation k), and the write waits for the read. No statement about the program.
-/
import Derived.OrdersHeld
import Derived.Deep.RegionHeld
namespace Go.Proofs.Ytnphkddhckcpmaa
section
variable {P : Program} {ops : Array Oper} {Q : Exit → Act → World → Prop} {md : Region.Mode} {S : World → Prop} {k : Nat}

/-- Whatever comes next; till operation k has come, S holds behind each. -/
def wpU (P : Program) (md : Region.Mode) (ops : Array Oper) (Q : Exit → Act → World → Prop) (S : World → Prop) (k : Nat) : Nat → Array Bool → Act → World → Prop
  | 0, listed, a, w => Region.ready md ops listed = [] ∧ Q .normal a w
  | fuel + 1, listed, a, w =>
    (Region.ready md ops listed = [] → Q .normal a w) ∧
    ∀ i ∈ Region.ready md ops listed, wpOp P ops Q i (fun a' w' => ((listed.setIfInBounds i true).getD k true = false → S w') ∧ wpU P md ops Q S k fuel (listed.setIfInBounds i true) a' w') a w
theorem wpAny_of_U : ∀ (fuel : Nat) (listed : Array Bool) (a : Act) (w : World), wpU P md ops Q S k fuel listed a w → wpAny P md ops Q fuel listed a w
  | 0, _, _, _, h => h
  | fuel + 1, _, _, _, h => ⟨h.1, fun i hi => wpOp_mono (fun a' w' h' => wpAny_of_U fuel _ a' w' h'.2) (h.2 i hi)⟩

def Waits (md : Region.Mode) (ops : Array Oper) (k i : Nat) : Bool := match ops[k]? with
  | some o => o.after.any fun e => Region.binds md e && e.on == i
  | none => false
theorem Waits.not_ready {i : Nat} {listed : Array Bool} (h : Waits md ops k i = true) (hl : listed.getD i true = false) (hr : k ∈ Region.ready md ops listed) : False := by
  obtain ⟨_, o, ho, hall⟩ := mem_ready.1 hr
  unfold Waits at h
  rw [ho] at h
  obtain ⟨e, he, hb⟩ := Array.any_eq_true'.1 h
  simp only [Bool.and_eq_true, beq_iff_eq] at hb
  have h1 := hall e he hb.1
  rw [hb.2] at h1
  rcases Nat.lt_or_ge i listed.size with h' | h'
  · simp [h'] at hl h1
    rw [hl] at h1
    cases h1
  · simp [Array.getElem?_eq_none h'] at h1

theorem wpU_first {T : World → Prop} {i : Nat} {oi : Oper} {v : Value} (hi : ops[i]? = some oi) (hsel : ∀ (j : Nat) (o : Oper) cs b, ops[j]? = some o → o.op ≠ .select cs b)
    (hQ : ∀ c a w, Q (.panic c) (a.put oi.dst v) w → Q (.panic c) a w) (hki : k ≠ i) (hk : (∀ w, T w) ∨ (Waits md ops k i = true ∧ ∀ w, S w → T w)) :
    ∀ (fuel : Nat) (listed : Array Bool) (a : Act) (w : World),
      (∀ j oj, ops[j]? = some oj → j ≠ i → listed.getD j true = false → (∀ e ∈ oj.after, Region.binds md e = true → e.on ≠ i) → oi.apart ops oj = true) →
      i ∈ Region.ready md ops listed → YieldsIf P ops T oi v a → T w → (listed.getD k true = false → S w) → ((∀ w, T w) ∨ listed.getD k true = false) →
      wpU P md ops Q S k fuel (listed.setIfInBounds i true) (a.put oi.dst v) w → wpU P md ops Q S k (fuel + 1) listed a w := by
  intro fuel
  induction fuel with
  | zero =>
    intro listed a w _ hr hy hT hS _ H
    refine ⟨fun h => (by rw [h] at hr; cases hr), fun j hj => ?_⟩
    by_cases hji : j = i
    · subst hji
      exact hy.wpOp hi hT ⟨fun h => hS (by rw [getD_set_ne true (Ne.symm hki)] at h; exact h), H⟩
    · have := ready_mono hj hji
      rw [H.1] at this
      cases this
  | succ fuel ih =>
    intro listed a w hfree hr hy hT hS hlk H
    refine ⟨fun h => (by rw [h] at hr; cases hr), fun j hj => ?_⟩
    by_cases hji : j = i
    · subst hji
      exact hy.wpOp hi hT ⟨fun h => hS (by rw [getD_set_ne true (Ne.symm hki)] at h; exact h), H⟩
    · have hiun := (mem_ready.1 hr).1
      obtain ⟨hjun, oj, hoj, hall⟩ := mem_ready.1 hj
      have hnot : ∀ e ∈ oj.after, Region.binds md e = true → e.on ≠ i := fun e he hb heq => by
        have h1 := hall e he hb
        rw [heq] at h1
        rcases Nat.lt_or_ge i listed.size with h' | h'
        · simp [h'] at hiun h1; rw [hiun] at h1; cases h1
        · simp [Array.getElem?_eq_none h'] at h1
      have step := wpOp_putIf hoj (hfree j oj hoj hji hjun hnot) (fun cs b => hsel i oi cs b hi) (fun cs b => hsel j oj cs b hoj) hQ hy (H.2 j (ready_mono hj hji))
      have back : ∀ w', ((((listed.setIfInBounds i true).setIfInBounds j true).getD k true = false) → S w') → ((listed.setIfInBounds j true).getD k true = false → S w') := fun w' h hl => h (by
        rw [Array.setIfInBounds_comm _ _ (Ne.symm hji), getD_set_ne true (Ne.symm hki)]
        exact hl)
      have hlk' : (∀ w, T w) ∨ (listed.setIfInBounds j true).getD k true = false := by
        rcases hlk with h | h
        · exact .inl h
        · rcases hk with h2 | ⟨h2, _⟩
          · exact .inl h2
          · refine .inr ?_
            rw [getD_set_ne true]
            · exact h
            · intro e
              exact Waits.not_ready h2 hiun (e ▸ hj)
      refine wpOp_mono (fun a' w' hn => ⟨back w' hn.2.1, ih (listed.setIfInBounds j true) a' w' (fun q oq hoq hqi hun hno => hfree q oq hoq hqi (by
          by_cases hjq : j = q
          · subst hjq; exact hjun
          · rw [getD_set_ne true hjq] at hun; exact hun) hno) (ready_mono hr (Ne.symm hji)) hn.1 ?_ (back w' hn.2.1) hlk' ?_⟩) step
      · rcases hlk' with h | h
        · exact h w'
        · rcases hk with h2 | ⟨_, h2⟩
          · exact h2 w'
          · exact h2 w' (back w' hn.2.1 h)
      · rw [Array.setIfInBounds_comm _ _ hji]
        exact hn.2.2

/-- Take an operation first that yields in whatever world. -/
theorem wpU_pure {i : Nat} {oi : Oper} {v : Value} {fuel : Nat} {listed : Array Bool} {a : Act} {w : World} (hi : ops[i]? = some oi)
    (hs : Region.noSelect ops = true) (hf : Region.free md ops listed i = true) (hr : (Region.ready md ops listed).contains i = true) (hki : k ≠ i)
    (hQ : ∀ c a w, Q (.panic c) (a.put oi.dst v) w → Q (.panic c) a w) (hS : listed.getD k true = false → S w) (hy : YieldsIf P ops (fun _ => True) oi v a)
    (h : wpU P md ops Q S k fuel (listed.setIfInBounds i true) (a.put oi.dst v) w) : wpU P md ops Q S k (fuel + 1) listed a w :=
  wpU_first hi (Region.noSelect_spec hs) hQ hki (.inl fun _ => trivial) fuel listed a w (Region.free_spec hi hf) (by simpa using hr) hy trivial hS (.inl fun _ => trivial) h
/-- Take a read first, for which k waits. -/
theorem wpU_load {i : Nat} {oi : Oper} {v : Value} {fuel : Nat} {listed : Array Bool} {a : Act} {w : World} (hi : ops[i]? = some oi)
    (hs : Region.noSelect ops = true) (hf : Region.free md ops listed i = true) (hr : (Region.ready md ops listed).contains i = true) (hki : k ≠ i) (hw : Waits md ops k i = true) (hl : listed.getD k true = false)
    (hQ : ∀ c a w, Q (.panic c) (a.put oi.dst v) w → Q (.panic c) a w) (hS : S w) (hy : YieldsIf P ops S oi v a)
    (h : wpU P md ops Q S k fuel (listed.setIfInBounds i true) (a.put oi.dst v) w) : wpU P md ops Q S k (fuel + 1) listed a w :=
  wpU_first hi (Region.noSelect_spec hs) hQ hki (.inr ⟨hw, fun _ h => h⟩) fuel listed a w (Region.free_spec hi hf) (by simpa using hr) hy hS (fun _ => hS) (.inr hl) h
theorem wpU_done {listed : Array Bool} {a : Act} {w : World} (hr : Region.ready md ops listed = []) (h : Q .normal a w) : ∀ fuel, wpU P md ops Q S k fuel listed a w
  | 0 => ⟨hr, h⟩
  | _ + 1 => ⟨fun _ => h, by rw [hr]; simp⟩
def ReadyU (P : Program) (md : Region.Mode) (ops : Array Oper) (Q : Exit → Act → World → Prop) (S : World → Prop) (k fuel : Nat) (listed : Array Bool) (a : Act) (w : World) (rs : List Nat) : Prop :=
  ∀ i ∈ rs, wpOp P ops Q i (fun a' w' => ((listed.setIfInBounds i true).getD k true = false → S w') ∧ wpU P md ops Q S k fuel (listed.setIfInBounds i true) a' w') a w
theorem wpU_all (rs : List Nat) {fuel : Nat} {listed : Array Bool} {a : Act} {w : World} (hr : Region.ready md ops listed = rs) (hne : rs ≠ []) (h : ReadyU P md ops Q S k fuel listed a w rs) : wpU P md ops Q S k (fuel + 1) listed a w :=
  ⟨fun h0 => absurd (hr ▸ h0) hne, hr ▸ h⟩
theorem ReadyU.nil {fuel : Nat} {listed : Array Bool} {a : Act} {w : World} : ReadyU P md ops Q S k fuel listed a w [] := fun _ h => by cases h
theorem ReadyU.cons {fuel : Nat} {listed : Array Bool} {a : Act} {w : World} {i : Nat} {o : Oper} {rs : List Nat} (ho : ops[i]? = some o)
    (h : ∀ K' : Act → World → Prop, Shut (∀ a w, ((listed.setIfInBounds i true).getD k true = false → S w) → wpU P md ops Q S k fuel (listed.setIfInBounds i true) a w → K' a w) → if Region.wanted o (yielded ops a.tmps) = true then Oper.wp P o a w K' Q else K' (a.put o.dst undef) w)
    (hs : ReadyU P md ops Q S k fuel listed a w rs) : ReadyU P md ops Q S k fuel listed a w (i :: rs) := fun j hj => by
  rcases List.mem_cons.1 hj with rfl | hj
  · exact wpOp_step ho fun K' hK => h K' fun a w hS hW => hK a w ⟨hS, hW⟩
  · exact hs j hj
theorem wp_region_U (S : World → Prop) (k : Nat) {id : Nat} {a : Act} {w : World} (hm : P.follows .mixedOrders = true)
    (h : wpU P .any ops Q S k ops.size (Array.replicate ops.size false) a w.drew) : (Code.region id ops true).wp P Q a w :=
  wp_region_any hm (wpAny_of_U _ _ _ _ h)
end

/-! A region's end told by a few words: which slots it may have written, what holds of the world. -/
def setAll (L : List Value) (slots : List Nat) (u : Nat → Value) : List Value := slots.foldl (fun l i => l.set i (u i)) L
def CutPost (L : List Value) (slots : List Nat) (d : List Deferred) (R : World → Prop) : Exit → Act → World → Prop
  | .normal, a', w' => R w' ∧ ∃ u, a' = ⟨(setAll L slots u).toArray, d⟩
  | _, _, _ => False
theorem wp_cut (slots : List Nat) (R : World → Prop) {P : Program} {id : Nat} {ops : Array Oper} {b : Bool} {Q : Exit → Act → World → Prop} {L : List Value} {d : List Deferred} {w : World}
    (h1 : (Code.region id ops b).wp P (CutPost L slots d R) ⟨L.toArray, d⟩ w) (h2 : ∀ (u : Nat → Value) (w' : World), R w' → Q .normal ⟨(setAll L slots u).toArray, d⟩ w') : (Code.region id ops b).wp P Q ⟨L.toArray, d⟩ w :=
  Code.wp_mono (fun e a' w' h => by
    cases e with
    | normal => obtain ⟨hR, u, rfl⟩ := h; exact h2 u w' hR
    | _ => exact h.elim) h1
theorem cut_end {L : List Value} {slots : List Nat} {d : List Deferred} {R : World → Prop} {F : List Value} {w : World} (hR : R w) (h : F = setAll L slots (fun i => F.getD i undef)) : CutPost L slots d R .normal ⟨F.toArray, d⟩ w :=
  ⟨hR, fun i => F.getD i undef, by rw [← h]⟩
end Go.Proofs.Ytnphkddhckcpmaa
