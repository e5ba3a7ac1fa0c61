/-
  Where a path stands in a row of rising ones; put and del told by places. No program in sight.
  Drawn regions told by list and slot: an operation that yields under S, or is not wanted, is taken first. No statement about the program.
  The reference's Less and Prefix.
  The reference's disk in memory; ask.
  The reference's disk: at, Used, NewDisk, the fuse's Set; as things of their own.
  The reference's disk: remove.
  The reference's disk: Read, Sync, Delete.
-/
import Derived.Test.YthkbbcdnmdjhdaaGreatD1
import Derived.Test.YthkbbcdnmdjhdaaGreatA1
import Derived.Deep.RegionHeld
import Derived.Test.YthkbbcdnmdjhdaaGreatD3
import Derived.BigQuiet
import Derived.Deep.RegionHeld3
/-! XRfP: Where a path stands in a row of rising ones; put and del told by places. No program in sight. -/
namespace Go.Proofs.YthkbbcdnmdjhdaaGreat.Dk
open Go
variable {α : Type}

/-- How many are ahead. -/
def pos (p : Path) : L α → Nat
  | [] => 0
  | e :: l => if bytesBefore e.1 p then pos p l + 1 else 0
/-- 1 where it is there, else 0. -/
def one (p : Path) (l : L α) : Nat := if (get p l).isSome then 1 else 0
theorem pos_le (p : Path) : ∀ l : L α, pos p l ≤ l.length
  | [] => Nat.le_refl _
  | e :: l => by
    unfold pos
    have := pos_le p l
    simp only [List.length_cons]
    split <;> omega
theorem pos_ahead (p : Path) : ∀ (l : L α) (i : Nat) (h : i < l.length), i < pos p l → bytesBefore l[i].1 p = true
  | [], _, h, _ => absurd h (Nat.not_lt_zero _)
  | e :: l, i, h, hi => by
    unfold pos at hi
    split at hi
    · rename_i hb
      cases i with
      | zero => exact hb
      | succ i => exact pos_ahead p l i (by simpa using h) (by omega)
    · omega
theorem pos_stop (p : Path) : ∀ (l : L α) (h : pos p l < l.length), bytesBefore (l[pos p l]).1 p = false
  | [], h => absurd h (Nat.not_lt_zero _)
  | e :: l, h => by
    by_cases hb : bytesBefore e.1 p = true
    · have e1 : pos p (e :: l) = pos p l + 1 := by simp [pos, hb]
      simp only [e1, List.getElem_cons_succ]
      exact pos_stop p l (by rw [e1] at h; simpa using h)
    · have e1 : pos p (e :: l) = 0 := by simp [pos, hb]
      simp only [e1, List.getElem_cons_zero]
      simpa using hb
/-- The first that is not ahead is the place. -/
theorem pos_eq (p : Path) : ∀ (l : L α) (i : Nat) (h : i ≤ l.length), (∀ j (hj : j < i), bytesBefore (l[j]'(by omega)).1 p = true) → (∀ h2 : i < l.length, bytesBefore l[i].1 p = false) → i = pos p l
  | [], i, h, _, _ => by simp at h; subst h; rfl
  | e :: l, i, h, ha, hs => by
    cases i with
    | zero =>
      have := hs (by simp)
      simp only [List.getElem_cons_zero] at this
      simp [pos, this]
    | succ i =>
      have h0 := ha 0 (by omega)
      simp only [List.getElem_cons_zero] at h0
      have := pos_eq p l i (by simpa using h) (fun j hj => by have := ha (j + 1) (by omega); simpa using this) (fun h2 => by have := hs (by simpa using h2); simpa using this)
      simp [pos, h0, ← this]
theorem rest_ne {p : Path} {e : Path × α} {l : L α} (hu : Up (e :: l)) (h : p = e.1 ∨ bytesBefore p e.1 = true) : ∀ x ∈ l, x.1 ≠ p := fun x hx e1 => by
  have h1 := hu.head x hx
  rw [e1] at h1
  rcases h with rfl | h
  · rw [WideAt.bytes_irrefl] at h1; cases h1
  · rw [before_not h] at h1; cases h1
theorem ins_first {p : Path} {x : α} {l : L α} (h : ∀ y ∈ l, bytesBefore p y.1 = true) : ins p x l = (p, x) :: l := by
  cases l with
  | nil => rfl
  | cons y l => unfold ins; rw [if_pos (h y List.mem_cons_self)]
theorem placed (p : Path) : ∀ {l : L α}, Up l → get p l = (match l[pos p l]? with | some e => if e.1 = p then some e.2 else none | none => none) ∧ (∀ x, put p x l = l.take (pos p l) ++ (p, x) :: l.drop (pos p l + one p l)) ∧ del p l = l.take (pos p l) ++ l.drop (pos p l + one p l)
  | [], _ => ⟨rfl, fun _ => rfl, rfl⟩
  | e :: l, hu => by
    obtain ⟨h1, h2, h3⟩ := placed p hu.tail
    by_cases hb : bytesBefore e.1 p = true
    · have hne : ¬ e.1 = p := before_ne hb
      have e1 : pos p (e :: l) = pos p l + 1 := by simp [pos, hb]
      have e2 : one p (e :: l) = one p l := by unfold one; rw [get_cons, if_neg hne]
      have e3 : pos p l + 1 + one p l = pos p l + one p l + 1 := by omega
      rw [e1, e2, e3]
      refine ⟨by rw [get_cons, if_neg hne, List.getElem?_cons_succ]; exact h1, fun x => ?_, ?_⟩
      · rw [List.take_succ_cons, List.drop_succ_cons, List.cons_append, ← h2 x]
        unfold put
        rw [del_cons, if_neg hne]
        show (if bytesBefore p e.1 = true then _ else _) = _
        rw [before_not hb]; rfl
      · rw [List.take_succ_cons, List.drop_succ_cons, List.cons_append, ← h3, del_cons, if_neg hne]
    · have e1 : pos p (e :: l) = 0 := by simp [pos, hb]
      rw [e1]
      simp only [List.take_zero, List.nil_append, List.getElem?_cons_zero, Nat.zero_add]
      by_cases he : e.1 = p
      · have hn := rest_ne hu (p := p) (.inl he.symm)
        have e2 : one p (e :: l) = 1 := by unfold one; rw [get_cons, if_pos he]; rfl
        rw [e2]
        refine ⟨by rw [get_cons, if_pos he, if_pos he], fun x => ?_, ?_⟩
        · unfold put
          rw [del_cons, if_pos he, del_none hn]
          exact ins_first fun y hy => by rw [← he]; exact hu.head y hy
        · rw [del_cons, if_pos he, del_none hn]; rfl
      · have hp : bytesBefore p e.1 = true := by
          rcases WideAt.bytes_total e.1 p he with h | h
          · exact absurd h hb
          · exact h
        have hn := rest_ne hu (p := p) (.inr hp)
        have hg : get p (e :: l) = none := by rw [get_cons, if_neg he, get_none hn]
        have e2 : one p (e :: l) = 0 := by unfold one; rw [hg]; rfl
        rw [e2]
        refine ⟨by rw [hg, if_neg he], fun x => ?_, ?_⟩
        · unfold put
          rw [del_cons, if_neg he, del_none hn]
          exact ins_first fun y hy => (List.mem_cons.1 hy).elim (fun e => by rw [e]; exact hp) fun hy => WideShapes.bytes_trans _ _ _ hp (hu.head y hy)
        · rw [del_cons, if_neg he, del_none hn]; rfl
/-- What stands at the place, where it is there. -/
theorem there_at {p : Path} {l : L α} (hu : Up l) {x : α} (h : get p l = some x) : ∃ hl : pos p l < l.length, l[pos p l] = (p, x) := by
  have h1 := (placed p hu).1
  rw [h] at h1
  cases hg : l[pos p l]? with
  | none => rw [hg] at h1; cases h1
  | some e =>
    rw [hg] at h1
    simp only at h1
    split at h1
    · rename_i he
      obtain ⟨hl, h2⟩ := List.getElem?_eq_some_iff.1 hg
      refine ⟨hl, ?_⟩
      rw [h2, Option.some.inj h1, ← he]
    · cases h1
theorem put_there {p : Path} {l : L α} (hu : Up l) {y : α} (h : get p l = some y) (x : α) : put p x l = l.set (pos p l) (p, x) := by
  obtain ⟨hl, -⟩ := there_at hu h
  have e1 : one p l = 1 := by unfold one; rw [h]; rfl
  rw [(placed p hu).2.1 x, e1, List.set_eq_take_append_cons_drop, if_pos hl]
theorem pos_mapv {β : Type} (f : α → β) (p : Path) : ∀ l : L α, pos p (mapv f l) = pos p l
  | [] => rfl
  | e :: l => by
    show (if bytesBefore e.1 p then pos p (mapv f l) + 1 else 0) = _
    rw [pos_mapv f p l]; rfl
theorem put_del {l : L α} (hu : Up l) {p q : Path} (h : p ≠ q) (x : α) : del p (put q x l) = put q x (del p l) := by
  refine get_ext (del_up (put_up hu) p) (put_up (del_up hu p)) fun r => ?_
  rw [get_del, get_put hu, get_put (del_up hu p), get_del]
  by_cases h1 : p = r
  · rw [if_pos h1, if_neg (fun e => h (h1.trans e.symm)), if_pos h1]
  · rw [if_neg h1, if_neg h1]
end Go.Proofs.YthkbbcdnmdjhdaaGreat.Dk
/-! XHeld: Drawn regions told by list and slot: an operation that yields under S, or is not wanted, is taken first. No statement about the program. -/
namespace Go.Proofs.YthkbbcdnmdjhdaaGreat
theorem put_listH {L : List Value} {d : List Deferred} {x : Option Nat} {j : Nat} (h : x = some j) (v : Value) : (⟨L.toArray, d⟩ : Act).put x v = ⟨(L.set j v).toArray, d⟩ := by subst h; simp [Act.put]
section
variable {P : Program} {md : Region.Mode} {ops : Array Oper} {Q : Exit → Act → World → Prop} {S : World → Prop} {i : Nat} {oi : Oper} {v : Value} {fuel : Nat} {listed : Array Bool} {L : List Value} {d : List Deferred} {w : World}
theorem wpH_take (hi : ops[i]? = some oi) {j : Nat} (hd : oi.dst = some j)
    (hs : Region.noSelect ops = true) (hf : Region.free md ops listed i = true) (hr : (Region.ready md ops listed).contains i = true)
    (hQ : ∀ c a w, Q (.panic c) (a.put oi.dst v) w → Q (.panic c) a w) (hy : YieldsIf P ops S oi v ⟨L.toArray, d⟩) (hS : S w)
    (h : wpAnyH P md ops Q S fuel (listed.setIfInBounds i true) ⟨(L.set j v).toArray, d⟩ w) : wpAnyH P md ops Q S (fuel + 1) listed ⟨L.toArray, d⟩ w :=
  wpAnyH_take hi hs hf hr hQ hy hS (by rw [put_listH hd]; exact h)
/-- The same where S holds till operation k comes (XUntil). -/
theorem wpU_pureH {k : Nat} (hi : ops[i]? = some oi) {j : Nat} (hd : oi.dst = some j)
    (hs : Region.noSelect ops = true) (hf : Region.free md ops listed i = true) (hr : (Region.ready md ops listed).contains i = true) (hki : k ≠ i)
    (hQ : ∀ c a w, Q (.panic c) (a.put oi.dst v) w → Q (.panic c) a w) (hS : listed.getD k true = false → S w) (hy : YieldsIf P ops (fun _ => True) oi v ⟨L.toArray, d⟩)
    (h : wpU P md ops Q S k fuel (listed.setIfInBounds i true) ⟨(L.set j v).toArray, d⟩ w) : wpU P md ops Q S k (fuel + 1) listed ⟨L.toArray, d⟩ w :=
  wpU_pure hi hs hf hr hki hQ hS hy (by rw [put_listH hd]; exact h)
theorem wpU_loadH {k : Nat} (hi : ops[i]? = some oi) {j : Nat} (hd : oi.dst = some j)
    (hs : Region.noSelect ops = true) (hf : Region.free md ops listed i = true) (hr : (Region.ready md ops listed).contains i = true) (hki : k ≠ i) (hw : Waits md ops k i = true) (hl : listed.getD k true = false)
    (hQ : ∀ c a w, Q (.panic c) (a.put oi.dst v) w → Q (.panic c) a w) (hS : S w) (hy : YieldsIf P ops S oi v ⟨L.toArray, d⟩)
    (h : wpU P md ops Q S k fuel (listed.setIfInBounds i true) ⟨(L.set j v).toArray, d⟩ w) : wpU P md ops Q S k (fuel + 1) listed ⟨L.toArray, d⟩ w :=
  wpU_load hi hs hf hr hki hw hl hQ hS hy (by rw [put_listH hd]; exact h)
theorem wpU_putH {k j : Nat} {x : Option Nat} (h : x = some j) (hk : wpU P md ops Q S k fuel listed ⟨(L.set j v).toArray, d⟩ w) : wpU P md ops Q S k fuel listed ((⟨L.toArray, d⟩ : Act).put x v) w := by rw [put_listH h]; exact hk
end
end Go.Proofs.YthkbbcdnmdjhdaaGreat
/-! XRfL: The reference's Less and Prefix. -/
namespace Go.Proofs.YthkbbcdnmdjhdaaGreat
open Go.RowKit Dk
set_option maxRecDepth 100000
set_option maxHeartbeats 4000000
attribute [local go_sem] min_int2 max_int2 bstr_toList bstr_size

theorem before_take {a b : Path} {i : Nat} (h : a.take i = b.take i) (ha : i ≤ a.length) (hb : i ≤ b.length) : bytesBefore a b = bytesBefore (a.drop i) (b.drop i) := by
  induction i generalizing a b with
  | zero => rfl
  | succ i ih =>
    cases a with
    | nil => simp at ha
    | cons x a =>
      cases b with
      | nil => simp at hb
      | cons y b =>
        simp only [List.take_succ_cons, List.cons.injEq] at h
        obtain ⟨rfl, h⟩ := h
        simp only [List.drop_succ_cons]
        rw [← ih h (by simpa using ha) (by simpa using hb)]
        show (decide (x < x) || (x == x && bytesBefore a b)) = _
        simp
theorem before_step {a b : Path} {i : Nat} (ha : i < a.length) (hb : i < b.length) (hn : ¬ a[i] = b[i]) : bytesBefore (a.drop i) (b.drop i) = decide (a[i].toNat < b[i].toNat) := by
  rw [← List.getElem_cons_drop (h := ha), ← List.getElem_cons_drop (h := hb)]
  show (decide (a[i] < b[i]) || (a[i] == b[i] && _)) = _
  have : (a[i] == b[i]) = false := by simpa using hn
  rw [this, Bool.false_and, Bool.or_false]
  rfl
theorem before_end {a b : Path} {i : Nat} (h : a.length = i ∨ b.length = i) (ha : i ≤ a.length) (hb : i ≤ b.length) : bytesBefore (a.drop i) (b.drop i) = decide (a.length < b.length) := by
  by_cases hbi : b.length = i
  · rw [List.drop_of_length_le (l := b) (by omega)]
    have : ¬ a.length < b.length := by omega
    rw [decide_eq_false this]
    cases a.drop i <;> rfl
  · have hai : a.length = i := by omega
    rw [List.drop_of_length_le (l := a) (by omega)]
    have : a.length < b.length := by omega
    rw [decide_eq_true this]
    cases hd : b.drop i with
    | nil => have := congrArg List.length hd; simp at this; omega
    | cons x l => rfl
theorem str_idx (p : Path) (i : Nat) (h : i < p.length) (W : World) : (Instr.index 9 (.string (bstr p)) (.int .i64 (i : Int))).run Tryz.prog W = .ok (.int .u8 ((p[i].toNat : Nat) : Int)) W := by
  rw [run_index_string W _ _ _ _ Tryz.underlying9, dif_pos ⟨by omega, by rw [bstr_size]; omega⟩]
  rfl
theorem rless_any (a b : Path) (ha : a.length ≤ 140737488351232) (hb : b.length ≤ 140737488351232) (w : World) :
    Calls Tryz.prog 128 #[.string (bstr a), .string (bstr b)] w fun e w' => e = .returned (.bool (bytesBefore a b)) ∧ Ext w w' := by
  go_enter Tryz.func128, Tryz.ntmps128
  go_wp2_with fail
  go_loopw [5] (fun v5 wr => ∃ i : Nat, i ≤ a.length ∧ i ≤ b.length ∧ v5 = .int .i64 (i : Nat) ∧ Hid (a.take i = b.take i) ∧ Hid (Ext w wr)) (fun v5 _ => (a.length - intOf v5).toNat)
  case atStart => exact ⟨0, by omega, by omega, rfl, Lib.hid rfl, Lib.hid (Ext.refl _)⟩
  case round =>
    obtain ⟨i, hia, hib, rfl, HT, HE⟩ := hrel
    by_cases hlt : i < a.length ∧ i < b.length
    · obtain ⟨h1, h2⟩ := hlt
      have h1' : (i : Int) < (a.length : Int) := by omega
      have h2' : (i : Int) < (b.length : Int) := by omega
      have x1 := str_idx a i h1
      have x2 := str_idx b i h2
      have hst : ∀ (h : ¬ a[i] = b[i]), bytesBefore a b = decide (a[i].toNat < b[i].toNat) := fun h => by rw [before_take HT.out hia hib, before_step h1 h2 h]
      have htk : a[i] = b[i] → a.take (i + 1) = b.take (i + 1) := fun h => by
        rw [List.take_add_one, List.take_add_one, HT.out, List.getElem?_eq_getElem h1, List.getElem?_eq_getElem h2, h]
      obtain ⟨x, hx⟩ : ∃ x, a[i] = x := ⟨_, rfl⟩
      obtain ⟨y, hy⟩ : ∃ y, b[i] = y := ⟨_, rfl⟩
      rw [hx, hy] at hst htk
      rw [hx] at x1
      rw [hy] at x2
      clear hx hy
      by_cases hxy : x = y
      · subst hxy
        have HTN := Lib.hid (htk rfl)
        clear hst htk
        go_wp2_with fail
        go_quiet (fail)
        have HEN := Lib.hid (Ext.trans HE.out (Ext.of_drawn wr nq))
        go_wp2_with fail
        exact ⟨⟨i + 1, by omega, by omega, by go_num, HTN, HEN⟩, by simp [intOf]; omega⟩
      · have q0 : ((x.toNat : Int) != (y.toNat : Int)) = true := by
          have : ¬ x.toNat = y.toNat := fun h => hxy (UInt8.toNat_inj.1 h)
          simp; omega
        have q1 : ¬ (x.toNat : Int) = (y.toNat : Int) := by
          have : ¬ x.toNat = y.toNat := fun h => hxy (UInt8.toNat_inj.1 h)
          omega
        have q2 : ¬ x.toNat = y.toNat := fun h => hxy (UInt8.toNat_inj.1 h)
        have HST := Lib.hid (hst hxy)
        clear hst htk hxy
        go_wp2_with fail
        go_quiet (fail)
        have hx1 := Ext.trans HE.out (Ext.of_drawn wr nq)
        have HEN := Lib.hid hx1
        clear hx1
        go_wp2_with fail
        go_quiet (fail)
        have HEF := Lib.hid (Ext.trans HEN.out (Ext.of_drawn _ nq))
        go_wp2_with fail
        go_ret
        rw [HST.out]
        exact ⟨by simp, HEF.out⟩
    · have hend : bytesBefore a b = decide (a.length < b.length) := by rw [before_take HT.out hia hib, before_end (by omega) hia hib]
      have HEND := Lib.hid hend
      by_cases h1 : i < a.length
      · have h1' : (i : Int) < (a.length : Int) := by omega
        have h2' : ¬ (i : Int) < (b.length : Int) := by omega
        clear hend hlt
        go_wp2_with fail
        go_ret
        rw [HEND.out]
        exact ⟨by simp, HE.out⟩
      · have h1' : ¬ (i : Int) < (a.length : Int) := by omega
        clear hend hlt
        go_wp2_with fail
        go_ret
        rw [HEND.out]
        exact ⟨by simp, HE.out⟩
theorem rprefix_any (q p : Path) (w : World) : Calls Tryz.prog 133 #[.string (bstr q), .string (bstr p)] w fun e w' => e = .returned (.bool (p.isPrefixOf q)) ∧ Ext w w' := by
  go_enter Tryz.func133, Tryz.ntmps133
  rcases prefix_cases q p with ⟨p1, p2, p3⟩ | ⟨p1, p2 | ⟨p2, p3⟩⟩
  · have p4 : (p.length : Int) ≤ (q.length : Int) := by omega
    rw [p1]
    go_wp2_with fail
    go_ret
    exact ⟨rfl, Ext.refl _⟩
  · have p4 : ¬ (p.length : Int) ≤ (q.length : Int) := by omega
    rw [p1]
    go_wp2_with fail
    go_ret
    exact ⟨rfl, Ext.refl _⟩
  · have p4 : (p.length : Int) ≤ (q.length : Int) := by omega
    rw [p1]
    go_wp2_with fail
    go_ret
    exact ⟨rfl, Ext.refl _⟩
end Go.Proofs.YthkbbcdnmdjhdaaGreat
/-! XRfA: The reference's disk in memory; ask. -/
namespace Go.Proofs.YthkbbcdnmdjhdaaGreat
open Go.RowKit Dk
set_option maxRecDepth 100000
set_option maxHeartbeats 4000000
attribute [local go_sem] min_int2 max_int2 bstr_toList bstr_size

/-- A file of the reference in memory: its slice; what it is. -/
structure REnt where
  v : Value
  f : Fil
def rc (e : Path × REnt) : List Value := [.string (bstr e.1), e.2.v, .bool e.2.f.sure]
def rcells (es : L REnt) : List Value := es.flatMap rc
def rfils (es : L REnt) : L Fil := mapv (·.f) es
theorem rcells_nil : rcells [] = [] := rfl
theorem rcells_cons (e : Path × REnt) (es : L REnt) : rcells (e :: es) = rc e ++ rcells es := rfl
theorem rcells_append (a b : L REnt) : rcells (a ++ b) = rcells a ++ rcells b := List.flatMap_append
theorem rcells_length (es : L REnt) : (rcells es).length = es.length * 3 := by
  induction es with
  | nil => rfl
  | cons e es ih => rw [rcells_cons, List.length_append, ih, List.length_cons]; show 3 + _ = _; omega
theorem rcells_drop : ∀ (es : L REnt) (i : Nat), (rcells es).drop (i * 3) = rcells (es.drop i)
  | es, 0 => by simp
  | [], i + 1 => by simp [rcells]
  | e :: es, i + 1 => by
    rw [List.drop_succ_cons, ← rcells_drop es i, rcells_cons, show (i + 1) * 3 = 3 + i * 3 by omega, ← List.drop_drop]
    rfl
theorem rcells_take : ∀ (es : L REnt) (i : Nat), (rcells es).take (i * 3) = rcells (es.take i)
  | es, 0 => by simp [rcells]
  | [], i + 1 => by simp [rcells]
  | e :: es, i + 1 => by
    rw [List.take_succ_cons, rcells_cons, rcells_cons, ← rcells_take es i, show (i + 1) * 3 = 3 + i * 3 by omega]
    show List.take (3 + i * 3) (_ :: _ :: _ :: _) = _
    rw [show 3 + i * 3 = (i * 3) + 1 + 1 + 1 by omega]
    rfl
theorem rcells_get {es : L REnt} {i : Nat} (h : i < es.length) : (rcells es)[i * 3]? = some (.string (bstr es[i].1)) ∧ (rcells es)[i * 3 + 1]? = some es[i].2.v ∧ (rcells es)[i * 3 + 2]? = some (.bool es[i].2.f.sure) := by
  have h1 : (rcells es).drop (i * 3) = rc es[i] ++ rcells (es.drop (i + 1)) := by rw [rcells_drop, ← rcells_cons, List.getElem_cons_drop]
  have h2 : ∀ j, (rcells es)[i * 3 + j]? = (rc es[i] ++ rcells (es.drop (i + 1)))[j]? := fun j => by rw [← h1, List.getElem?_drop]
  exact ⟨h2 0, h2 1, h2 2⟩
theorem rcells_one (es : L REnt) (h : ∀ e ∈ es, e.2.v.oneCell' = true) : ∀ u ∈ rcells es, u.oneCell' = true := fun u hu => by
  obtain ⟨e, he, hu⟩ := List.mem_flatMap.1 hu
  unfold rc at hu
  simp only [List.mem_cons, List.not_mem_nil, or_false] at hu
  rcases hu with rfl | rfl | rfl
  · rfl
  · exact h e he
  · rfl
/-- The reference's disk in memory. -/
structure RRaw (w : World) (r : Nat) (rf : Option Nat) (lv : Value) (es : L REnt) (d : DS) : Prop where
  row : Row w r 192 #[lv, .int .i64 d.most, fptr rf, .bool d.off, .int .i64 d.bad]
  lst : OwnK w 0 194 3 lv es.length (rcells es)
  up : Up es
  file : ∀ e ∈ es, Own w 0 5 e.2.v (bvs e.2.f.b)
  fs : d.fs = rfils es
  nb : d.bad ≤ 9223372036854775807
  nm : d.most ≤ 4194304
  pl : ∀ e ∈ es, e.1.length ≤ 600
def RFoot (r : Nat) (lv : Value) (es : L REnt) (b : Nat) : Prop := b = r ∨ lv.ownBlock = some b ∨ ∃ e ∈ es, e.2.v.ownBlock = some b
def RefAt (w : World) (r : Nat) (rf : Option Nat) (d : DS) (S : Nat → Prop) : Prop := ∃ lv es, RRaw w r rf lv es d ∧ (∀ b, RFoot r lv es b → S b) ∧ (∀ b, S b → b < w.heap.size) ∧ (∀ b, rf = some b → ¬ S b)
/-- The reference's fuse in memory. -/
def RzAt (w : World) : Option Nat → Option FS → Prop
  | none, none => True
  | some b, some z => Row w b 147 #[.int .i64 z.n, .int .i64 z.ops, .bool z.blown] ∧ -9223372036854775808 ≤ z.n ∧ z.n ≤ 9223372036854775807
  | _, _ => False
theorem RzAt.chg {S : Nat → Prop} {w w' : World} {fp : Option Nat} {z : Option FS} (h : RzAt w fp z) (k : Chg S w w') (hn : ∀ b, fp = some b → ¬ S b) : RzAt w' fp z := by
  cases fp with
  | none => cases z with
    | none => trivial
    | some z => exact h
  | some b => cases z with
    | none => exact h
    | some z => exact ⟨h.1.chg k (hn b rfl), h.2⟩
theorem RzAt.lt {w : World} {fp : Option Nat} {z : Option FS} (h : RzAt w fp z) (b : Nat) (hb : fp = some b) : b < w.heap.size := by
  subst hb
  cases z with
  | none => exact h.elim
  | some z => exact h.1.lt
theorem rty1 : 192 ≠ 147 := by decide
theorem rty2 : 192 ≠ 194 := by decide
theorem rty3 : 192 ≠ 5 := by decide
theorem rty4 : 194 ≠ 5 := by decide
theorem rty5 : 194 ≠ 147 := by decide
theorem rty6 : 5 ≠ 147 := by decide
theorem rty7 : 9 ≠ 147 := by decide
theorem OwnK.ne {w : World} {B c k n : Nat} {e f : TypeId} {v : Value} {xs : List Value} {ds : Array Value} (h : OwnK w B e k v n xs) (hr : Row w c f ds) (hef : e ≠ f) : v.ownBlock ≠ some c := fun x => by
  obtain ⟨cur, h1⟩ := h.row x
  exact h1.ne hr hef rfl
section
variable {w w' : World} {r : Nat} {rf : Option Nat} {lv : Value} {es : L REnt} {d : DS} {S T : Nat → Prop}
theorem RRaw.foot_lt (h : RRaw w r rf lv es d) {b : Nat} (hb : RFoot r lv es b) : b < w.heap.size := by
  rcases hb with rfl | hb | ⟨e, he, hb⟩
  · exact h.row.lt
  · exact h.lst.lt hb
  · exact (h.file e he).lt hb
theorem RRaw.chg (h : RRaw w r rf lv es d) (k : Chg S w w') (hn : ∀ b, RFoot r lv es b → ¬ S b) : RRaw w' r rf lv es d :=
  ⟨h.row.chg k (hn r (.inl rfl)), h.lst.chg k (fun b hb => hn b (.inr (.inl hb))), h.up, fun e he => (h.file e he).chg k fun b hb => hn b (.inr (.inr ⟨e, he, hb⟩)), h.fs, h.nb, h.nm, h.pl⟩
theorem RefAt.chg (h : RefAt w r rf d S) (k : Chg T w w') (hn : ∀ b, S b → ¬ T b) : RefAt w' r rf d S := by
  obtain ⟨lv, es, h1, h2, h3, h4⟩ := h
  exact ⟨lv, es, h1.chg k fun b hb => hn b (h2 b hb), h2, fun b hb => Nat.lt_of_lt_of_le (h3 b hb) k.size, h4⟩
theorem RefAt.lt (h : RefAt w r rf d S) : ∀ b, S b → b < w.heap.size := by obtain ⟨_, _, _, _, h3, _⟩ := h; exact h3
/-- The disk's own block is none of its rows'. -/
theorem RRaw.self (h : RRaw w r rf lv es d) : lv.ownBlock ≠ some r ∧ ∀ e ∈ es, e.2.v.ownBlock ≠ some r :=
  ⟨h.lst.ne h.row (fun e => rty2 e.symm), fun e he => (h.file e he).ne h.row (fun e => rty3 e.symm)⟩
/-- One of the disk's own cells, written. -/
theorem RRaw.own (h : RRaw w r rf lv es d) {d' : DS} (i : Nat) (u : Value) (hr : Row (w.setCell ⟨r, i, none⟩ u) r 192 #[lv, .int .i64 d'.most, fptr rf, .bool d'.off, .int .i64 d'.bad]) (hf : d'.fs = d.fs) (h1 : d'.bad ≤ 9223372036854775807) (h2 : d'.most ≤ 4194304) : RRaw (w.setCell ⟨r, i, none⟩ u) r rf lv es d' := by
  have hc : Chg (fun b => b = r) w (w.setCell ⟨r, i, none⟩ u) := (Chg.refl (fun b => b = r) w).at r i (.inl rfl) u
  exact ⟨hr, h.lst.chg hc (fun b hb e => h.self.1 (by rw [hb, e])), h.up, fun e he => (h.file e he).chg hc fun b hb e1 => h.self.2 e he (by rw [hb, e1]), by rw [hf, h.fs], h1, h2, h.pl⟩
theorem RRaw.fuse {z : Option FS} (h : RRaw w r rf lv es d) (hz : RzAt w rf z) (b : Nat) (hb : RFoot r lv es b) : rf ≠ some b := fun e => by
  subst e
  cases z with
  | none => exact hz
  | some z =>
    rcases hb with rfl | hb | ⟨e, he, hb⟩
    · exact h.row.ne hz.1 rty1 rfl
    · exact h.lst.ne hz.1 rty5 hb
    · exact (h.file e he).ne hz.1 rty6 hb
end
/-- What ask leaves. -/
def AskOut (r : Nat) (rf : Option Nat) (z : Option FS) (lv : Value) (es : L REnt) (d : DS) (ps : List Path) (w : World) (e : Ending) (w' : World) : Prop :=
  e = .returned (.int .i64 ((begins z d ps).1 : Nat)) ∧ RzAt w' rf (begins z d ps).2.1 ∧ RRaw w' r rf lv es (begins z d ps).2.2 ∧ Chg (fun b => b = r ∨ rf = some b) w w' ∧ w'.heap.size = w.heap.size
/-- The rest of ask, behind the fuse. -/
theorem begins_on {z : Option FS} {d : DS} {ps : List Path} (h : (ticks z).1 = true) : begins z d ps = if d.off then (10, (ticks z).2, d) else if 0 < d.bad then (9, (ticks z).2, { d with bad := d.bad - 1 }) else if ps.all okP then (0, (ticks z).2, d) else (1, (ticks z).2, d) := by
  unfold begins; rw [h, if_neg (by simp)]
theorem ask_any (r : Nat) (rf : Option Nat) (z : Option FS) (lv : Value) (es : L REnt) (d : DS) (ps : List Path) (v : Value) (w : World) (h : RRaw w r rf lv es d) (hz : RzAt w rf z) (hzo : zops z < 1099511627776)
    (hps : ps.length ≤ 100000) (hpl : ∀ p ∈ ps, p.length ≤ maxLen) (hv : Strs w v ps) :
    Calls Tryz.prog 101 #[.pointer (some ⟨r, 0, none⟩), v] w (AskOut r rf z lv es d ps w) := by
  obtain ⟨a, c, rfl⟩ := hv.form
  have HV := Lib.hid hv
  have HPL := Lib.hid hpl
  have HZ := Lib.hid hz
  have H := Lib.hid h
  have c2 := h.row.cell (i := 2) (v := fptr rf) rfl
  clear h hz hv hpl
  cases rf with
  | none =>
    cases z with
    | some z => exact HZ.out.elim
    | none =>
      replace c2 : w.cell? ⟨r, 2, none⟩ = some (.pointer none) := c2
      have H1 := H
      have HZ1 := Lib.hid (show RzAt w none (ticks none).2 from trivial)
      have HG1 := Lib.hid (And.intro (Chg.refl (fun b => b = r ∨ (none : Option Nat) = some b) w) (rfl : w.heap.size = w.heap.size))
      have HV1 := HV
      have HT := Lib.hid (show (ticks none).1 = true from rfl)
      go_enter Tryz.func101, Tryz.ntmps101
      have c3 := H1.out.row.cell (i := 3) (v := .bool d.off) rfl
      obtain ⟨dm, dof, dbad, dfs⟩ := d
      cases dof with
      | true =>
        have HR := Lib.hid (show begins none ⟨dm, true, dbad, dfs⟩ ps = (10, (ticks none).2, ⟨dm, true, dbad, dfs⟩) by rw [begins_on HT.out, if_pos rfl])
        go_wp2_with fail
        go_ret
        unfold AskOut
        rw [HR.out]
        exact ⟨rfl, HZ1.out, H1.out, Chg.refl _ _, rfl⟩
      | false =>
        have c4 := H1.out.row.cell (i := 4) (v := .int .i64 dbad) rfl
        have hbd : dbad ≤ 9223372036854775807 := H1.out.nb
        by_cases hb : 0 < dbad
        · have HR := Lib.hid (show begins none ⟨dm, false, dbad, dfs⟩ ps = (9, (ticks none).2, ⟨dm, false, dbad - 1, dfs⟩) by rw [begins_on HT.out, if_neg (by simp), if_pos hb])
          have u4 := H1.out.row.unfrozen 4
          have hb' : (0 : Int) < (dbad : Int) := by omega
          have r2 := H1.out.row.set 4 (.int .i64 ((dbad : Int) - 1))
          have e2 : ((dbad : Int) - 1) = ((dbad - 1 : Nat) : Int) := by omega
          have h2 := H1.out.own (d' := ⟨dm, false, dbad - 1, dfs⟩) 4 (.int .i64 ((dbad : Int) - 1)) (by rw [e2] at r2 ⊢; simpa using r2) rfl (by show dbad - 1 ≤ _; omega) H1.out.nm
          have z2 := HZ1.out.chg (S := fun b => b = r) ((Chg.refl (fun b => b = r) w).at r 4 (.inl rfl) (.int .i64 ((dbad : Int) - 1))) (fun b hb e => H1.out.fuse HZ1.out r (.inl rfl) (by rw [hb, e]))
          have FIN := Lib.hid (And.intro z2 (And.intro h2 (And.intro (HG1.out.1.at r 4 (.inl (.inl rfl)) (.int .i64 ((dbad : Int) - 1))) (show (World.setCell w ⟨r, 4, none⟩ (.int .i64 ((dbad : Int) - 1))).heap.size = w.heap.size by exact setCell_size _ _ _))))
          clear r2 h2 z2 e2
          go_wp2_with fail
          go_ret
          unfold AskOut
          rw [HR.out]
          exact ⟨rfl, FIN.out⟩
        · have hb' : (dbad : Int) ≤ 0 := by omega
          have HB := Lib.hid hb
          clear hb
          go_wp2_with fail
          clear c3 c4
          go_loop [5] (fun v5 => ∃ j : Nat, j ≤ ps.length ∧ v5 = .int .i64 (j : Nat) ∧ Hid (∀ i, i < j → ∀ p, ps[i]? = some p → okP p = true)) (fun v5 => (ps.length - intOf v5).toNat)
          case atStart => exact ⟨0, by omega, rfl, Lib.hid fun i hi => by omega⟩
          case round =>
            obtain ⟨j, hj, rfl, hJ⟩ := hrel
            by_cases hlt : j < ps.length
            · have hlt' : (j : Int) < (ps.length : Int) := by omega
              obtain ⟨b5, o, rfl, c5⟩ := HV1.out.at hlt
              have hpm : ps[j] ∈ ps := List.getElem_mem hlt
              have hpe : ps[j]? = some ps[j] := List.getElem?_eq_getElem hlt
              have hlen := HPL.out ps[j] hpm
              unfold maxLen at hlen
              obtain ⟨p, hp⟩ : ∃ p, ps[j] = p := ⟨_, rfl⟩
              rw [hp] at c5 hpm hpe hlen
              have HP := Lib.hid (And.intro hpm hpe)
              clear hpm hpe hp
              by_cases hok : 1 ≤ p.length ∧ p.length ≤ 600
              · have q1 : ¬ (p.length : Int) < 1 := by omega
                have q3 : (p.length : Int) ≤ 600 := by omega
                have HO := Lib.hid hok
                clear hok
                go_wp2_with fail
                exact ⟨⟨j + 1, by omega, by go_num, Lib.hid fun i hi p' hp' => by
                  by_cases e : i = j
                  · subst e
                    rw [HP.out.2] at hp'
                    cases hp'
                    unfold okP; exact decide_eq_true HO.out
                  · exact hJ.out i (by omega) p' hp'⟩, by simp [intOf]; omega⟩
              · have HR := Lib.hid (show begins none ⟨dm, false, dbad, dfs⟩ ps = (1, (ticks none).2, ⟨dm, false, dbad, dfs⟩) by
                  have : ps.all okP = false := by
                    refine List.all_eq_false.2 ⟨p, HP.out.1, ?_⟩
                    unfold okP
                    simpa using hok
                  rw [begins_on HT.out, if_neg (by simp), if_neg HB.out, this, if_neg (by simp)])
                by_cases h0 : p.length < 1
                · have q1 : (p.length : Int) < 1 := by omega
                  clear hok h0
                  go_wp2_with fail
                  go_ret
                  unfold AskOut
                  rw [HR.out]
                  exact ⟨rfl, HZ1.out, H1.out, Chg.refl _ _, rfl⟩
                · have q1 : ¬ (p.length : Int) < 1 := by omega
                  have q3 : (600 : Int) < (p.length : Int) := by omega
                  clear hok h0
                  go_wp2_with fail
                  go_ret
                  unfold AskOut
                  rw [HR.out]
                  exact ⟨rfl, HZ1.out, H1.out, Chg.refl _ _, rfl⟩
            · have HR := Lib.hid (show begins none ⟨dm, false, dbad, dfs⟩ ps = (0, (ticks none).2, ⟨dm, false, dbad, dfs⟩) by
                have : ps.all okP = true := List.all_eq_true.2 fun p hp => by
                  obtain ⟨i, hi⟩ := List.getElem?_of_mem hp
                  exact hJ.out i (by have := (List.getElem?_eq_some_iff.1 hi).1; omega) p hi
                rw [begins_on HT.out, if_neg (by simp), if_neg HB.out, this, if_pos rfl])
              clear hJ
              go_wp2_with fail
              go_ret
              unfold AskOut
              rw [HR.out]
              exact ⟨rfl, HZ1.out, H1.out, Chg.refl _ _, rfl⟩
  | some b =>
    cases z with
    | none => exact HZ.out.elim
    | some z =>
      obtain ⟨n, k, bl⟩ := z
      obtain ⟨h1, n1, n2⟩ := HZ.out
      have hz : k < 1099511627776 := hzo
      simp only at h1 n1 n2
      replace c2 : w.cell? ⟨r, 2, none⟩ = some (.pointer (some ⟨b, 0, none⟩)) := c2
      have hrb : ¬ r = b := H.out.row.ne h1 rty1
      have d2 := h1.cell (i := 2) (v := .bool bl) rfl
      cases bl with
      | true =>
        have HR := Lib.hid (show begins (some ⟨n, k, true⟩) d ps = (20, some ⟨n, k, true⟩, d) from rfl)
        clear h1
        go_enter Tryz.func101, Tryz.ntmps101
        go_wp2_with fail
        go_ret
        unfold AskOut
        rw [HR.out]
        exact ⟨rfl, HZ.out, H.out, Chg.refl _ _, rfl⟩
      | false =>
        have d1 := h1.cell (i := 1) (v := .int .i64 k) rfl
        have u1 := h1.unfrozen 1
        have r1 : Row (w.setCell ⟨b, 1, none⟩ (.int .i64 ((k : Int) + 1))) b 147 #[.int .i64 n, .int .i64 ((k : Int) + 1), .bool false] := by simpa using h1.set 1 (.int .i64 ((k : Int) + 1))
        have g1 : Chg (fun x => x = r ∨ some b = some x) w (w.setCell ⟨b, 1, none⟩ (.int .i64 ((k : Int) + 1))) ∧ (w.setCell ⟨b, 1, none⟩ (.int .i64 ((k : Int) + 1))).heap.size = w.heap.size := ⟨(Chg.refl (fun x => x = r ∨ some b = some x) _).at b 1 (.inl (.inr rfl)) _, setCell_size _ _ _⟩
        have f1 : Chg (fun x => x = b) w (w.setCell ⟨b, 1, none⟩ (.int .i64 ((k : Int) + 1))) := (Chg.refl (fun x => x = b) _).at b 1 (.inl rfl) _
        have c2w := f1.cell c2 hrb
        have R1 := Lib.hid r1
        have G1 := Lib.hid (And.intro g1 f1)
        clear h1 r1 g1 f1
        go_enter Tryz.func101, Tryz.ntmps101
        go_wp2_with fail
        generalize w.setCell ⟨b, 1, none⟩ (.int .i64 ((k : Int) + 1)) = w0 at R1 G1 c2w ⊢
        clear c2 d1 d2 u1
        have c2 := c2w
        have d0 := R1.out.cell (i := 0) (v := .int .i64 n) rfl
        have d1 := R1.out.cell (i := 1) (v := .int .i64 ((k : Int) + 1)) rfl
        have d2 := R1.out.cell (i := 2) (v := .bool false) rfl
        have u2 := R1.out.unfrozen 2
        have S0 : (fun w' : World => w'.cell? ⟨r, 2, none⟩ = some (.pointer (some ⟨b, 0, none⟩)) ∧ w'.cell? ⟨b, 0, none⟩ = some (.int .i64 n) ∧ w'.cell? ⟨b, 1, none⟩ = some (.int .i64 ((k : Int) + 1))) w0.drew := ⟨c2, d0, d1⟩
        have hS : ∀ v, (fun w' : World => w'.cell? ⟨r, 2, none⟩ = some (.pointer (some ⟨b, 0, none⟩)) ∧ w'.cell? ⟨b, 0, none⟩ = some (.int .i64 n) ∧ w'.cell? ⟨b, 1, none⟩ = some (.int .i64 ((k : Int) + 1))) (w0.drew.setCell ⟨b, 2, none⟩ v) := fun v => by
          have r2 := R1.out.drew.set 2 v
          exact ⟨((Chg.refl (fun x => x = b) w0.drew).at b 2 (.inl rfl) v).cell c2 hrb, r2.cell (i := 0) rfl, r2.cell (i := 1) rfl⟩
        have fin : ∀ e : Bool, e = decide (0 < n ∧ n ≤ (k : Int) + 1) → RzAt (w0.drew.setCell ⟨b, 2, none⟩ (.bool e)) (some b) (ticks (some ⟨n, k, false⟩)).2 ∧ (Chg (fun x => x = r ∨ some b = some x) w (w0.drew.setCell ⟨b, 2, none⟩ (.bool e)) ∧ (w0.drew.setCell ⟨b, 2, none⟩ (.bool e)).heap.size = w.heap.size) ∧ Chg (fun x => x = b) w (w0.drew.setCell ⟨b, 2, none⟩ (.bool e)) := fun e he => by
          have r2 := R1.out.drew.set 2 (.bool e)
          subst he
          exact ⟨⟨by simpa using r2, n1, n2⟩, ⟨G1.out.1.1.drew.at b 2 (.inl (.inr rfl)) _, by rw [setCell_size]; exact G1.out.1.2⟩, G1.out.2.drew.at b 2 (.inl rfl) _⟩
        have FIN := Lib.hid fin
        have HT := Lib.hid (show (ticks (some ⟨n, k, false⟩)).1 = true from rfl)
        clear fin c2w
        by_cases hn : 0 < n
        · by_cases hk : n ≤ (k : Int) + 1
          · have HD := Lib.hid (show true = decide (0 < n ∧ n ≤ (k : Int) + 1) by simp [hn, hk])
            go_region_held3 (fun w' : World => w'.cell? ⟨r, 2, none⟩ = some (.pointer (some ⟨b, 0, none⟩)) ∧ w'.cell? ⟨b, 0, none⟩ = some (.int .i64 n) ∧ w'.cell? ⟨b, 1, none⟩ = some (.int .i64 ((k : Int) + 1))) (first | assumption | exact hS _) (fail)
            obtain ⟨w1, hw1⟩ : ∃ w1, (w0.setCell ⟨b, 2, none⟩ (.bool true)).drew = w1 := ⟨_, rfl⟩
            have h4 : RzAt w1 (some b) (ticks (some ⟨n, k, false⟩)).2 ∧ (Chg (fun x => x = r ∨ some b = some x) w w1 ∧ w1.heap.size = w.heap.size) ∧ Chg (fun x => x = b) w w1 := by rw [← hw1]; exact FIN.out true HD.out
            rw [hw1]
            clear hw1
            have H1 := Lib.hid (H.out.chg h4.2.2 (fun x hx e => H.out.fuse HZ.out x hx (by rw [e])))
            have HV1 := Lib.hid (HV.out.chg h4.2.2 (fun x hx e => by
              obtain ⟨cur, hr⟩ := HV.out.row hx
              exact hr.ne HZ.out.1 rty7 e))
            have HZ1 := Lib.hid h4.1
            have HG1 := Lib.hid h4.2.1
            clear h4 c2 d0 d1 d2 u2 S0 hS
            have c3 := H1.out.row.cell (i := 3) (v := .bool d.off) rfl
            obtain ⟨dm, dof, dbad, dfs⟩ := d
            cases dof with
            | true =>
              have HR := Lib.hid (show begins (some ⟨n, k, false⟩) ⟨dm, true, dbad, dfs⟩ ps = (10, (ticks (some ⟨n, k, false⟩)).2, ⟨dm, true, dbad, dfs⟩) by rw [begins_on HT.out, if_pos rfl])
              go_wp2_with fail
              go_ret
              unfold AskOut
              rw [HR.out]
              exact ⟨rfl, HZ1.out, H1.out, HG1.out.1, HG1.out.2⟩
            | false =>
              have c4 := H1.out.row.cell (i := 4) (v := .int .i64 dbad) rfl
              have hbd : dbad ≤ 9223372036854775807 := H1.out.nb
              by_cases hb : 0 < dbad
              · have HR := Lib.hid (show begins (some ⟨n, k, false⟩) ⟨dm, false, dbad, dfs⟩ ps = (9, (ticks (some ⟨n, k, false⟩)).2, ⟨dm, false, dbad - 1, dfs⟩) by rw [begins_on HT.out, if_neg (by simp), if_pos hb])
                have u4 := H1.out.row.unfrozen 4
                have hb' : (0 : Int) < (dbad : Int) := by omega
                have r2 := H1.out.row.set 4 (.int .i64 ((dbad : Int) - 1))
                have e2 : ((dbad : Int) - 1) = ((dbad - 1 : Nat) : Int) := by omega
                have h2 := H1.out.own (d' := ⟨dm, false, dbad - 1, dfs⟩) 4 (.int .i64 ((dbad : Int) - 1)) (by rw [e2] at r2 ⊢; simpa using r2) rfl (by show dbad - 1 ≤ _; omega) H1.out.nm
                have z2 := HZ1.out.chg (S := fun b => b = r) ((Chg.refl (fun b => b = r) w1).at r 4 (.inl rfl) (.int .i64 ((dbad : Int) - 1))) (fun b hb e => H1.out.fuse HZ1.out r (.inl rfl) (by rw [hb, e]))
                have FIN := Lib.hid (And.intro z2 (And.intro h2 (And.intro (HG1.out.1.at r 4 (.inl (.inl rfl)) (.int .i64 ((dbad : Int) - 1))) (show (World.setCell w1 ⟨r, 4, none⟩ (.int .i64 ((dbad : Int) - 1))).heap.size = w.heap.size by rw [setCell_size]; exact HG1.out.2))))
                clear r2 h2 z2 e2
                go_wp2_with fail
                go_ret
                unfold AskOut
                rw [HR.out]
                exact ⟨rfl, FIN.out⟩
              · have hb' : (dbad : Int) ≤ 0 := by omega
                have HB := Lib.hid hb
                clear hb
                go_wp2_with fail
                clear c3 c4
                go_loop [5] (fun v5 => ∃ j : Nat, j ≤ ps.length ∧ v5 = .int .i64 (j : Nat) ∧ Hid (∀ i, i < j → ∀ p, ps[i]? = some p → okP p = true)) (fun v5 => (ps.length - intOf v5).toNat)
                case atStart => exact ⟨0, by omega, rfl, Lib.hid fun i hi => by omega⟩
                case round =>
                  obtain ⟨j, hj, rfl, hJ⟩ := hrel
                  by_cases hlt : j < ps.length
                  · have hlt' : (j : Int) < (ps.length : Int) := by omega
                    obtain ⟨b5, o, rfl, c5⟩ := HV1.out.at hlt
                    have hpm : ps[j] ∈ ps := List.getElem_mem hlt
                    have hpe : ps[j]? = some ps[j] := List.getElem?_eq_getElem hlt
                    have hlen := HPL.out ps[j] hpm
                    unfold maxLen at hlen
                    obtain ⟨p, hp⟩ : ∃ p, ps[j] = p := ⟨_, rfl⟩
                    rw [hp] at c5 hpm hpe hlen
                    have HP := Lib.hid (And.intro hpm hpe)
                    clear hpm hpe hp
                    by_cases hok : 1 ≤ p.length ∧ p.length ≤ 600
                    · have q1 : ¬ (p.length : Int) < 1 := by omega
                      have q3 : (p.length : Int) ≤ 600 := by omega
                      have HO := Lib.hid hok
                      clear hok
                      go_wp2_with fail
                      exact ⟨⟨j + 1, by omega, by go_num, Lib.hid fun i hi p' hp' => by
                        by_cases e : i = j
                        · subst e
                          rw [HP.out.2] at hp'
                          cases hp'
                          unfold okP; exact decide_eq_true HO.out
                        · exact hJ.out i (by omega) p' hp'⟩, by simp [intOf]; omega⟩
                    · have HR := Lib.hid (show begins (some ⟨n, k, false⟩) ⟨dm, false, dbad, dfs⟩ ps = (1, (ticks (some ⟨n, k, false⟩)).2, ⟨dm, false, dbad, dfs⟩) by
                        have : ps.all okP = false := by
                          refine List.all_eq_false.2 ⟨p, HP.out.1, ?_⟩
                          unfold okP
                          simpa using hok
                        rw [begins_on HT.out, if_neg (by simp), if_neg HB.out, this, if_neg (by simp)])
                      by_cases h0 : p.length < 1
                      · have q1 : (p.length : Int) < 1 := by omega
                        clear hok h0
                        go_wp2_with fail
                        go_ret
                        unfold AskOut
                        rw [HR.out]
                        exact ⟨rfl, HZ1.out, H1.out, HG1.out.1, HG1.out.2⟩
                      · have q1 : ¬ (p.length : Int) < 1 := by omega
                        have q3 : (600 : Int) < (p.length : Int) := by omega
                        clear hok h0
                        go_wp2_with fail
                        go_ret
                        unfold AskOut
                        rw [HR.out]
                        exact ⟨rfl, HZ1.out, H1.out, HG1.out.1, HG1.out.2⟩
                  · have HR := Lib.hid (show begins (some ⟨n, k, false⟩) ⟨dm, false, dbad, dfs⟩ ps = (0, (ticks (some ⟨n, k, false⟩)).2, ⟨dm, false, dbad, dfs⟩) by
                      have : ps.all okP = true := List.all_eq_true.2 fun p hp => by
                        obtain ⟨i, hi⟩ := List.getElem?_of_mem hp
                        exact hJ.out i (by have := (List.getElem?_eq_some_iff.1 hi).1; omega) p hi
                      rw [begins_on HT.out, if_neg (by simp), if_neg HB.out, this, if_pos rfl])
                    clear hJ
                    go_wp2_with fail
                    go_ret
                    unfold AskOut
                    rw [HR.out]
                    exact ⟨rfl, HZ1.out, H1.out, HG1.out.1, HG1.out.2⟩
          · have hk' : (k : Int) + 1 < n := by omega
            have HD := Lib.hid (show false = decide (0 < n ∧ n ≤ (k : Int) + 1) by simp [hk])
            have hkd : decide (n ≤ (k : Int) + 1) = false := by simpa using hk'
            clear hk
            go_region_held3 (fun w' : World => w'.cell? ⟨r, 2, none⟩ = some (.pointer (some ⟨b, 0, none⟩)) ∧ w'.cell? ⟨b, 0, none⟩ = some (.int .i64 n) ∧ w'.cell? ⟨b, 1, none⟩ = some (.int .i64 ((k : Int) + 1))) (first | assumption | exact hS _) (fail)
            obtain ⟨w1, hw1⟩ : ∃ w1, (w0.setCell ⟨b, 2, none⟩ (.bool false)).drew = w1 := ⟨_, rfl⟩
            have h4 : RzAt w1 (some b) (ticks (some ⟨n, k, false⟩)).2 ∧ (Chg (fun x => x = r ∨ some b = some x) w w1 ∧ w1.heap.size = w.heap.size) ∧ Chg (fun x => x = b) w w1 := by rw [← hw1]; exact FIN.out false HD.out
            rw [hw1]
            clear hw1
            have H1 := Lib.hid (H.out.chg h4.2.2 (fun x hx e => H.out.fuse HZ.out x hx (by rw [e])))
            have HV1 := Lib.hid (HV.out.chg h4.2.2 (fun x hx e => by
              obtain ⟨cur, hr⟩ := HV.out.row hx
              exact hr.ne HZ.out.1 rty7 e))
            have HZ1 := Lib.hid h4.1
            have HG1 := Lib.hid h4.2.1
            clear h4 c2 d0 d1 d2 u2 S0 hS
            have c3 := H1.out.row.cell (i := 3) (v := .bool d.off) rfl
            obtain ⟨dm, dof, dbad, dfs⟩ := d
            cases dof with
            | true =>
              have HR := Lib.hid (show begins (some ⟨n, k, false⟩) ⟨dm, true, dbad, dfs⟩ ps = (10, (ticks (some ⟨n, k, false⟩)).2, ⟨dm, true, dbad, dfs⟩) by rw [begins_on HT.out, if_pos rfl])
              go_wp2_with fail
              go_ret
              unfold AskOut
              rw [HR.out]
              exact ⟨rfl, HZ1.out, H1.out, HG1.out.1, HG1.out.2⟩
            | false =>
              have c4 := H1.out.row.cell (i := 4) (v := .int .i64 dbad) rfl
              have hbd : dbad ≤ 9223372036854775807 := H1.out.nb
              by_cases hb : 0 < dbad
              · have HR := Lib.hid (show begins (some ⟨n, k, false⟩) ⟨dm, false, dbad, dfs⟩ ps = (9, (ticks (some ⟨n, k, false⟩)).2, ⟨dm, false, dbad - 1, dfs⟩) by rw [begins_on HT.out, if_neg (by simp), if_pos hb])
                have u4 := H1.out.row.unfrozen 4
                have hb' : (0 : Int) < (dbad : Int) := by omega
                have r2 := H1.out.row.set 4 (.int .i64 ((dbad : Int) - 1))
                have e2 : ((dbad : Int) - 1) = ((dbad - 1 : Nat) : Int) := by omega
                have h2 := H1.out.own (d' := ⟨dm, false, dbad - 1, dfs⟩) 4 (.int .i64 ((dbad : Int) - 1)) (by rw [e2] at r2 ⊢; simpa using r2) rfl (by show dbad - 1 ≤ _; omega) H1.out.nm
                have z2 := HZ1.out.chg (S := fun b => b = r) ((Chg.refl (fun b => b = r) w1).at r 4 (.inl rfl) (.int .i64 ((dbad : Int) - 1))) (fun b hb e => H1.out.fuse HZ1.out r (.inl rfl) (by rw [hb, e]))
                have FIN := Lib.hid (And.intro z2 (And.intro h2 (And.intro (HG1.out.1.at r 4 (.inl (.inl rfl)) (.int .i64 ((dbad : Int) - 1))) (show (World.setCell w1 ⟨r, 4, none⟩ (.int .i64 ((dbad : Int) - 1))).heap.size = w.heap.size by rw [setCell_size]; exact HG1.out.2))))
                clear r2 h2 z2 e2
                go_wp2_with fail
                go_ret
                unfold AskOut
                rw [HR.out]
                exact ⟨rfl, FIN.out⟩
              · have hb' : (dbad : Int) ≤ 0 := by omega
                have HB := Lib.hid hb
                clear hb
                go_wp2_with fail
                clear c3 c4
                go_loop [5] (fun v5 => ∃ j : Nat, j ≤ ps.length ∧ v5 = .int .i64 (j : Nat) ∧ Hid (∀ i, i < j → ∀ p, ps[i]? = some p → okP p = true)) (fun v5 => (ps.length - intOf v5).toNat)
                case atStart => exact ⟨0, by omega, rfl, Lib.hid fun i hi => by omega⟩
                case round =>
                  obtain ⟨j, hj, rfl, hJ⟩ := hrel
                  by_cases hlt : j < ps.length
                  · have hlt' : (j : Int) < (ps.length : Int) := by omega
                    obtain ⟨b5, o, rfl, c5⟩ := HV1.out.at hlt
                    have hpm : ps[j] ∈ ps := List.getElem_mem hlt
                    have hpe : ps[j]? = some ps[j] := List.getElem?_eq_getElem hlt
                    have hlen := HPL.out ps[j] hpm
                    unfold maxLen at hlen
                    obtain ⟨p, hp⟩ : ∃ p, ps[j] = p := ⟨_, rfl⟩
                    rw [hp] at c5 hpm hpe hlen
                    have HP := Lib.hid (And.intro hpm hpe)
                    clear hpm hpe hp
                    by_cases hok : 1 ≤ p.length ∧ p.length ≤ 600
                    · have q1 : ¬ (p.length : Int) < 1 := by omega
                      have q3 : (p.length : Int) ≤ 600 := by omega
                      have HO := Lib.hid hok
                      clear hok
                      go_wp2_with fail
                      exact ⟨⟨j + 1, by omega, by go_num, Lib.hid fun i hi p' hp' => by
                        by_cases e : i = j
                        · subst e
                          rw [HP.out.2] at hp'
                          cases hp'
                          unfold okP; exact decide_eq_true HO.out
                        · exact hJ.out i (by omega) p' hp'⟩, by simp [intOf]; omega⟩
                    · have HR := Lib.hid (show begins (some ⟨n, k, false⟩) ⟨dm, false, dbad, dfs⟩ ps = (1, (ticks (some ⟨n, k, false⟩)).2, ⟨dm, false, dbad, dfs⟩) by
                        have : ps.all okP = false := by
                          refine List.all_eq_false.2 ⟨p, HP.out.1, ?_⟩
                          unfold okP
                          simpa using hok
                        rw [begins_on HT.out, if_neg (by simp), if_neg HB.out, this, if_neg (by simp)])
                      by_cases h0 : p.length < 1
                      · have q1 : (p.length : Int) < 1 := by omega
                        clear hok h0
                        go_wp2_with fail
                        go_ret
                        unfold AskOut
                        rw [HR.out]
                        exact ⟨rfl, HZ1.out, H1.out, HG1.out.1, HG1.out.2⟩
                      · have q1 : ¬ (p.length : Int) < 1 := by omega
                        have q3 : (600 : Int) < (p.length : Int) := by omega
                        clear hok h0
                        go_wp2_with fail
                        go_ret
                        unfold AskOut
                        rw [HR.out]
                        exact ⟨rfl, HZ1.out, H1.out, HG1.out.1, HG1.out.2⟩
                  · have HR := Lib.hid (show begins (some ⟨n, k, false⟩) ⟨dm, false, dbad, dfs⟩ ps = (0, (ticks (some ⟨n, k, false⟩)).2, ⟨dm, false, dbad, dfs⟩) by
                      have : ps.all okP = true := List.all_eq_true.2 fun p hp => by
                        obtain ⟨i, hi⟩ := List.getElem?_of_mem hp
                        exact hJ.out i (by have := (List.getElem?_eq_some_iff.1 hi).1; omega) p hi
                      rw [begins_on HT.out, if_neg (by simp), if_neg HB.out, this, if_pos rfl])
                    clear hJ
                    go_wp2_with fail
                    go_ret
                    unfold AskOut
                    rw [HR.out]
                    exact ⟨rfl, HZ1.out, H1.out, HG1.out.1, HG1.out.2⟩
        · have hn' : n ≤ 0 := by omega
          have HD := Lib.hid (show false = decide (0 < n ∧ n ≤ (k : Int) + 1) by simp [hn])
          have hdn : decide (0 < n) = false := by simpa using hn'
          clear hn
          have hS2 := hS
          have hS := S0
          refine wp_cut [28, 29, 30, 31, 32, 33, 34, 35, 36, 37, 38, 39, 40, 41, 42, 43, 44, 45, 46, 47, 48, 49, 50, 51, 52, 53, 54, 55, 56, 57, 58] (fun w8 => RzAt w8 (some b) (ticks (some ⟨n, k, false⟩)).2 ∧ (Chg (fun x => x = r ∨ some b = some x) w w8 ∧ w8.heap.size = w.heap.size) ∧ Chg (fun x => x = b) w w8) ?_ ?_
          · refine wp_region_held_drew (S := (fun w' : World => w'.cell? ⟨r, 2, none⟩ = some (.pointer (some ⟨b, 0, none⟩)) ∧ w'.cell? ⟨b, 0, none⟩ = some (.int .i64 n) ∧ w'.cell? ⟨b, 1, none⟩ = some (.int .i64 ((k : Int) + 1)))) (by kernel_rfl) S0 fun _ => ?_
            refine wpH_take (i := 0) (j := 28) (v := ?_) rfl rfl (by kernel_rfl) (by kernel_rfl) (by kernel_rfl) (fun _ _ _ h => h) (Or.inl ⟨by kernel_rfl, fun wl hl => ?_⟩) hS ?_
            rotate_left
            · obtain ⟨l0, l1, l2⟩ := hl
              go_simp
              try with_reducible rfl
            refine wpH_take (i := 1) (j := 29) (v := ?_) rfl rfl (by kernel_rfl) (by kernel_rfl) (by kernel_rfl) (fun _ _ _ h => h) (Or.inl ⟨by kernel_rfl, fun wl hl => ?_⟩) hS ?_
            rotate_left
            · obtain ⟨l0, l1, l2⟩ := hl
              go_simp
              try with_reducible rfl
            refine wpH_take (i := 2) (j := 30) (v := ?_) rfl rfl (by kernel_rfl) (by kernel_rfl) (by kernel_rfl) (fun _ _ _ h => h) (Or.inl ⟨by kernel_rfl, fun wl hl => ?_⟩) hS ?_
            rotate_left
            · obtain ⟨l0, l1, l2⟩ := hl
              go_simp
              try with_reducible rfl
            refine wpH_take (i := 3) (j := 31) (v := ?_) rfl rfl (by kernel_rfl) (by kernel_rfl) (by kernel_rfl) (fun _ _ _ h => h) (Or.inl ⟨by kernel_rfl, fun wl hl => ?_⟩) hS ?_
            rotate_left
            · obtain ⟨l0, l1, l2⟩ := hl
              go_simp
              try with_reducible rfl
            refine wpH_take (i := 4) (j := 32) (v := ?_) rfl rfl (by kernel_rfl) (by kernel_rfl) (by kernel_rfl) (fun _ _ _ h => h) (Or.inl ⟨by kernel_rfl, fun wl hl => ?_⟩) hS ?_
            rotate_left
            · obtain ⟨l0, l1, l2⟩ := hl
              go_simp
              try with_reducible rfl
            refine wpH_take (i := 5) (j := 33) (v := ?_) rfl rfl (by kernel_rfl) (by kernel_rfl) (by kernel_rfl) (fun _ _ _ h => h) (Or.inl ⟨by kernel_rfl, fun wl hl => ?_⟩) hS ?_
            rotate_left
            · obtain ⟨l0, l1, l2⟩ := hl
              go_simp
              try with_reducible rfl
            refine wpH_take (i := 6) (j := 34) (v := ?_) rfl rfl (by kernel_rfl) (by kernel_rfl) (by kernel_rfl) (fun _ _ _ h => h) (Or.inl ⟨by kernel_rfl, fun wl hl => ?_⟩) hS ?_
            rotate_left
            · obtain ⟨l0, l1, l2⟩ := hl
              go_simp
              try with_reducible rfl
            refine wpH_take (i := 7) (j := 35) (v := ?_) rfl rfl (by kernel_rfl) (by kernel_rfl) (by kernel_rfl) (fun _ _ _ h => h) (Or.inl ⟨by kernel_rfl, fun wl hl => ?_⟩) hS ?_
            rotate_left
            · obtain ⟨l0, l1, l2⟩ := hl
              go_simp
              try with_reducible rfl
            refine wpH_take (i := 8) (j := 36) (v := ?_) rfl rfl (by kernel_rfl) (by kernel_rfl) (by kernel_rfl) (fun _ _ _ h => h) (Or.inl ⟨by kernel_rfl, fun wl hl => ?_⟩) hS ?_
            rotate_left
            · obtain ⟨l0, l1, l2⟩ := hl
              go_simp
              try with_reducible rfl
            refine wpH_take (i := 9) (j := 37) (v := ?_) rfl rfl (by kernel_rfl) (by kernel_rfl) (by kernel_rfl) (fun _ _ _ h => h) (Or.inl ⟨by kernel_rfl, fun wl hl => ?_⟩) hS ?_
            rotate_left
            · obtain ⟨l0, l1, l2⟩ := hl
              go_simp
              try with_reducible rfl
            refine wpH_take (i := 10) (j := 38) (v := ?_) rfl rfl (by kernel_rfl) (by kernel_rfl) (by kernel_rfl) (fun _ _ _ h => h) (Or.inl ⟨by kernel_rfl, fun wl hl => ?_⟩) hS ?_
            rotate_left
            · obtain ⟨l0, l1, l2⟩ := hl
              go_simp
              try with_reducible rfl
            refine wpH_take (i := 11) (j := 39) (v := ?_) rfl rfl (by kernel_rfl) (by kernel_rfl) (by kernel_rfl) (fun _ _ _ h => h) (Or.inl ⟨by kernel_rfl, fun wl hl => ?_⟩) hS ?_
            rotate_left
            · obtain ⟨l0, l1, l2⟩ := hl
              go_simp
              try with_reducible rfl
            refine wpH_take (i := 12) (j := 40) (v := ?_) rfl rfl (by kernel_rfl) (by kernel_rfl) (by kernel_rfl) (fun _ _ _ h => h) (Or.inl ⟨by kernel_rfl, fun wl hl => ?_⟩) hS ?_
            rotate_left
            · obtain ⟨l0, l1, l2⟩ := hl
              go_simp
              try with_reducible rfl
            refine wpH_take (i := 13) (j := 41) (v := undef) rfl rfl (by kernel_rfl) (by kernel_rfl) (by kernel_rfl) (fun _ _ _ h => h) (Or.inr ⟨by kernel_rfl, rfl⟩) hS ?_
            refine wpH_take (i := 14) (j := 42) (v := undef) rfl rfl (by kernel_rfl) (by kernel_rfl) (by kernel_rfl) (fun _ _ _ h => h) (Or.inr ⟨by kernel_rfl, rfl⟩) hS ?_
            refine wpH_take (i := 15) (j := 43) (v := undef) rfl rfl (by kernel_rfl) (by kernel_rfl) (by kernel_rfl) (fun _ _ _ h => h) (Or.inr ⟨by kernel_rfl, rfl⟩) hS ?_
            refine wpH_take (i := 16) (j := 44) (v := undef) rfl rfl (by kernel_rfl) (by kernel_rfl) (by kernel_rfl) (fun _ _ _ h => h) (Or.inr ⟨by kernel_rfl, rfl⟩) hS ?_
            refine wpH_take (i := 17) (j := 45) (v := undef) rfl rfl (by kernel_rfl) (by kernel_rfl) (by kernel_rfl) (fun _ _ _ h => h) (Or.inr ⟨by kernel_rfl, rfl⟩) hS ?_
            refine wpH_take (i := 18) (j := 46) (v := undef) rfl rfl (by kernel_rfl) (by kernel_rfl) (by kernel_rfl) (fun _ _ _ h => h) (Or.inr ⟨by kernel_rfl, rfl⟩) hS ?_
            refine wpH_take (i := 19) (j := 47) (v := undef) rfl rfl (by kernel_rfl) (by kernel_rfl) (by kernel_rfl) (fun _ _ _ h => h) (Or.inr ⟨by kernel_rfl, rfl⟩) hS ?_
            refine wpH_take (i := 20) (j := 48) (v := undef) rfl rfl (by kernel_rfl) (by kernel_rfl) (by kernel_rfl) (fun _ _ _ h => h) (Or.inr ⟨by kernel_rfl, rfl⟩) hS ?_
            refine wpH_take (i := 21) (j := 49) (v := undef) rfl rfl (by kernel_rfl) (by kernel_rfl) (by kernel_rfl) (fun _ _ _ h => h) (Or.inr ⟨by kernel_rfl, rfl⟩) hS ?_
            refine wpH_take (i := 22) (j := 50) (v := undef) rfl rfl (by kernel_rfl) (by kernel_rfl) (by kernel_rfl) (fun _ _ _ h => h) (Or.inr ⟨by kernel_rfl, rfl⟩) hS ?_
            refine wpH_take (i := 23) (j := 51) (v := undef) rfl rfl (by kernel_rfl) (by kernel_rfl) (by kernel_rfl) (fun _ _ _ h => h) (Or.inr ⟨by kernel_rfl, rfl⟩) hS ?_
            refine wpH_take (i := 24) (j := 52) (v := undef) rfl rfl (by kernel_rfl) (by kernel_rfl) (by kernel_rfl) (fun _ _ _ h => h) (Or.inr ⟨by kernel_rfl, rfl⟩) hS ?_
            refine wpH_take (i := 25) (j := 53) (v := undef) rfl rfl (by kernel_rfl) (by kernel_rfl) (by kernel_rfl) (fun _ _ _ h => h) (Or.inr ⟨by kernel_rfl, rfl⟩) hS ?_
            refine wpH_take (i := 26) (j := 54) (v := undef) rfl rfl (by kernel_rfl) (by kernel_rfl) (by kernel_rfl) (fun _ _ _ h => h) (Or.inr ⟨by kernel_rfl, rfl⟩) hS ?_
            refine wpH_take (i := 27) (j := 55) (v := undef) rfl rfl (by kernel_rfl) (by kernel_rfl) (by kernel_rfl) (fun _ _ _ h => h) (Or.inr ⟨by kernel_rfl, rfl⟩) hS ?_
            refine wpH_take (i := 28) (j := 56) (v := ?_) rfl rfl (by kernel_rfl) (by kernel_rfl) (by kernel_rfl) (fun _ _ _ h => h) (Or.inl ⟨by kernel_rfl, fun wl hl => ?_⟩) hS ?_
            rotate_left
            · obtain ⟨l0, l1, l2⟩ := hl
              go_simp
              try with_reducible rfl
            refine wpH_take (i := 29) (j := 57) (v := ?_) rfl rfl (by kernel_rfl) (by kernel_rfl) (by kernel_rfl) (fun _ _ _ h => h) (Or.inl ⟨by kernel_rfl, fun wl hl => ?_⟩) hS ?_
            rotate_left
            · obtain ⟨l0, l1, l2⟩ := hl
              go_simp
              try with_reducible rfl
            refine wpH_take (i := 30) (j := 58) (v := ?_) rfl rfl (by kernel_rfl) (by kernel_rfl) (by kernel_rfl) (fun _ _ _ h => h) (Or.inl ⟨by kernel_rfl, fun wl hl => ?_⟩) hS ?_
            rotate_left
            · obtain ⟨l0, l1, l2⟩ := hl
              go_simp
              try with_reducible rfl
            refine wpAnyH_ready (rs := [31]) (by kernel_rfl) (by simp) (AllReadyH.cons rfl (fun K hK => ?_) AllReadyH.nil)
            simp only [List.set_cons_zero, List.set_cons_succ]
            go_simp
            refine hK.out _ _ (hS2 _) fun _ => ?_
            clear hK K
            refine wpAnyH_done (by kernel_rfl) ?_ _
            exact cut_end (FIN.out false HD.out) (by kernel_rfl)
          · intro us w1 h4
            have H1 := Lib.hid (H.out.chg h4.2.2 (fun x hx e => H.out.fuse HZ.out x hx (by rw [e])))
            have HV1 := Lib.hid (HV.out.chg h4.2.2 (fun x hx e => by
              obtain ⟨cur, hr⟩ := HV.out.row hx
              exact hr.ne HZ.out.1 rty7 e))
            have HZ1 := Lib.hid h4.1
            have HG1 := Lib.hid h4.2.1
            clear h4 c2 d0 d1 d2 u2 S0 hS hS2
            simp only [setAll, List.foldl_cons, List.foldl_nil, List.set_cons_zero, List.set_cons_succ]
            have c3 := H1.out.row.cell (i := 3) (v := .bool d.off) rfl
            obtain ⟨dm, dof, dbad, dfs⟩ := d
            cases dof with
            | true =>
              have HR := Lib.hid (show begins (some ⟨n, k, false⟩) ⟨dm, true, dbad, dfs⟩ ps = (10, (ticks (some ⟨n, k, false⟩)).2, ⟨dm, true, dbad, dfs⟩) by rw [begins_on HT.out, if_pos rfl])
              go_wp2_with fail
              go_ret
              unfold AskOut
              rw [HR.out]
              exact ⟨rfl, HZ1.out, H1.out, HG1.out.1, HG1.out.2⟩
            | false =>
              have c4 := H1.out.row.cell (i := 4) (v := .int .i64 dbad) rfl
              have hbd : dbad ≤ 9223372036854775807 := H1.out.nb
              by_cases hb : 0 < dbad
              · have HR := Lib.hid (show begins (some ⟨n, k, false⟩) ⟨dm, false, dbad, dfs⟩ ps = (9, (ticks (some ⟨n, k, false⟩)).2, ⟨dm, false, dbad - 1, dfs⟩) by rw [begins_on HT.out, if_neg (by simp), if_pos hb])
                have u4 := H1.out.row.unfrozen 4
                have hb' : (0 : Int) < (dbad : Int) := by omega
                have r2 := H1.out.row.set 4 (.int .i64 ((dbad : Int) - 1))
                have e2 : ((dbad : Int) - 1) = ((dbad - 1 : Nat) : Int) := by omega
                have h2 := H1.out.own (d' := ⟨dm, false, dbad - 1, dfs⟩) 4 (.int .i64 ((dbad : Int) - 1)) (by rw [e2] at r2 ⊢; simpa using r2) rfl (by show dbad - 1 ≤ _; omega) H1.out.nm
                have z2 := HZ1.out.chg (S := fun b => b = r) ((Chg.refl (fun b => b = r) w1).at r 4 (.inl rfl) (.int .i64 ((dbad : Int) - 1))) (fun b hb e => H1.out.fuse HZ1.out r (.inl rfl) (by rw [hb, e]))
                have FIN := Lib.hid (And.intro z2 (And.intro h2 (And.intro (HG1.out.1.at r 4 (.inl (.inl rfl)) (.int .i64 ((dbad : Int) - 1))) (show (World.setCell w1 ⟨r, 4, none⟩ (.int .i64 ((dbad : Int) - 1))).heap.size = w.heap.size by rw [setCell_size]; exact HG1.out.2))))
                clear r2 h2 z2 e2
                go_wp2_with fail
                go_ret
                unfold AskOut
                rw [HR.out]
                exact ⟨rfl, FIN.out⟩
              · have hb' : (dbad : Int) ≤ 0 := by omega
                have HB := Lib.hid hb
                clear hb
                go_wp2_with fail
                clear c3 c4
                go_loop [5] (fun v5 => ∃ j : Nat, j ≤ ps.length ∧ v5 = .int .i64 (j : Nat) ∧ Hid (∀ i, i < j → ∀ p, ps[i]? = some p → okP p = true)) (fun v5 => (ps.length - intOf v5).toNat)
                case atStart => exact ⟨0, by omega, rfl, Lib.hid fun i hi => by omega⟩
                case round =>
                  obtain ⟨j, hj, rfl, hJ⟩ := hrel
                  by_cases hlt : j < ps.length
                  · have hlt' : (j : Int) < (ps.length : Int) := by omega
                    obtain ⟨b5, o, rfl, c5⟩ := HV1.out.at hlt
                    have hpm : ps[j] ∈ ps := List.getElem_mem hlt
                    have hpe : ps[j]? = some ps[j] := List.getElem?_eq_getElem hlt
                    have hlen := HPL.out ps[j] hpm
                    unfold maxLen at hlen
                    obtain ⟨p, hp⟩ : ∃ p, ps[j] = p := ⟨_, rfl⟩
                    rw [hp] at c5 hpm hpe hlen
                    have HP := Lib.hid (And.intro hpm hpe)
                    clear hpm hpe hp
                    by_cases hok : 1 ≤ p.length ∧ p.length ≤ 600
                    · have q1 : ¬ (p.length : Int) < 1 := by omega
                      have q3 : (p.length : Int) ≤ 600 := by omega
                      have HO := Lib.hid hok
                      clear hok
                      go_wp2_with fail
                      exact ⟨⟨j + 1, by omega, by go_num, Lib.hid fun i hi p' hp' => by
                        by_cases e : i = j
                        · subst e
                          rw [HP.out.2] at hp'
                          cases hp'
                          unfold okP; exact decide_eq_true HO.out
                        · exact hJ.out i (by omega) p' hp'⟩, by simp [intOf]; omega⟩
                    · have HR := Lib.hid (show begins (some ⟨n, k, false⟩) ⟨dm, false, dbad, dfs⟩ ps = (1, (ticks (some ⟨n, k, false⟩)).2, ⟨dm, false, dbad, dfs⟩) by
                        have : ps.all okP = false := by
                          refine List.all_eq_false.2 ⟨p, HP.out.1, ?_⟩
                          unfold okP
                          simpa using hok
                        rw [begins_on HT.out, if_neg (by simp), if_neg HB.out, this, if_neg (by simp)])
                      by_cases h0 : p.length < 1
                      · have q1 : (p.length : Int) < 1 := by omega
                        clear hok h0
                        go_wp2_with fail
                        go_ret
                        unfold AskOut
                        rw [HR.out]
                        exact ⟨rfl, HZ1.out, H1.out, HG1.out.1, HG1.out.2⟩
                      · have q1 : ¬ (p.length : Int) < 1 := by omega
                        have q3 : (600 : Int) < (p.length : Int) := by omega
                        clear hok h0
                        go_wp2_with fail
                        go_ret
                        unfold AskOut
                        rw [HR.out]
                        exact ⟨rfl, HZ1.out, H1.out, HG1.out.1, HG1.out.2⟩
                  · have HR := Lib.hid (show begins (some ⟨n, k, false⟩) ⟨dm, false, dbad, dfs⟩ ps = (0, (ticks (some ⟨n, k, false⟩)).2, ⟨dm, false, dbad, dfs⟩) by
                      have : ps.all okP = true := List.all_eq_true.2 fun p hp => by
                        obtain ⟨i, hi⟩ := List.getElem?_of_mem hp
                        exact hJ.out i (by have := (List.getElem?_eq_some_iff.1 hi).1; omega) p hi
                      rw [begins_on HT.out, if_neg (by simp), if_neg HB.out, this, if_pos rfl])
                    clear hJ
                    go_wp2_with fail
                    go_ret
                    unfold AskOut
                    rw [HR.out]
                    exact ⟨rfl, HZ1.out, H1.out, HG1.out.1, HG1.out.2⟩
end Go.Proofs.YthkbbcdnmdjhdaaGreat
/-! XRfB: The reference's disk: at, Used, NewDisk, the fuse's Set; as things of their own. -/
namespace Go.Proofs.YthkbbcdnmdjhdaaGreat
open Go.RowKit Dk
set_option maxRecDepth 100000
set_option maxHeartbeats 4000000
attribute [local go_sem] min_int2 max_int2 bstr_toList bstr_size

/-- Where an entry lies. -/
theorem RRaw.entry {w : World} {r : Nat} {rf : Option Nat} {lv : Value} {es : L REnt} {d : DS} (h : RRaw w r rf lv es d) {i : Nat} (hi : i < es.length) :
    ∃ g cap, lv = .slice (some ⟨g, 0, none⟩) es.length cap ∧ es.length ≤ cap ∧ w.cell? ⟨g, i * 3, none⟩ = some (.string (bstr es[i].1)) ∧ w.cell? ⟨g, i * 3 + 1, none⟩ = some es[i].2.v ∧ w.cell? ⟨g, i * 3 + 2, none⟩ = some (.bool es[i].2.f.sure) ∧ ∀ j, w.frozen? ⟨g, j, none⟩ = false := by
  obtain ⟨h1, h2, h3⟩ := rcells_get hi
  obtain ⟨g, cap, rfl, -, hc, c1⟩ := h.lst.cell h1
  obtain ⟨g2, cap2, e2, -, -, c2⟩ := h.lst.cell h2
  obtain ⟨g3, cap3, e3, -, -, c3⟩ := h.lst.cell h3
  cases e2
  cases e3
  obtain ⟨cur, hr⟩ := h.lst.row (b := g) rfl
  exact ⟨g, cap, rfl, hc, c1, c2, c3, fun j => hr.unfrozen j⟩
theorem RRaw.ext {w w' : World} {r : Nat} {rf : Option Nat} {lv : Value} {es : L REnt} {d : DS} (h : RRaw w r rf lv es d) (k : Ext w w') : RRaw w' r rf lv es d := h.chg (Chg.of_ext k fun _ => False) fun _ _ h => h
theorem at_any (r : Nat) (rf : Option Nat) (lv : Value) (es : L REnt) (d : DS) (p : Path) (w : World) (h : RRaw w r rf lv es d) (hn : es.length ≤ 100000) (hp : p.length ≤ 140737488351232) :
    Calls Tryz.prog 102 #[.pointer (some ⟨r, 0, none⟩), .string (bstr p)] w fun e w' => e = .returned (.tuple #[.int .i64 (pos p es : Nat), .bool (get p es).isSome]) ∧ Ext w w' := by
  have H := Lib.hid h
  have HES := Lib.hid h.pl
  obtain ⟨la, lc, hlv⟩ := h.lst.slice
  subst hlv
  have c0 := h.row.cell (i := 0) (v := .slice la es.length lc) rfl
  have HPL := Lib.hid (placed p h.up).1
  clear h
  go_enter Tryz.func102, Tryz.ntmps102
  go_wp2_with fail
  clear c0
  go_loopw [6] (fun v6 wr => ∃ i : Nat, i ≤ es.length ∧ v6 = .int .i64 (i : Nat) ∧ Hid (∀ j (hj : j < i) (hl : j < es.length), bytesBefore es[j].1 p = true) ∧ Hid (Ext w wr)) (fun v6 _ => (es.length - intOf v6).toNat)
  case atStart => exact ⟨0, by omega, rfl, Lib.hid fun j hj => absurd hj (Nat.not_lt_zero _), Lib.hid (Ext.refl _)⟩
  case round =>
    obtain ⟨i, hi, rfl, HJ, HE⟩ := hrel
    have c0 := (H.out.ext HE.out).row.cell (i := 0) (v := .slice la es.length lc) rfl
    by_cases hlt : i < es.length
    · have hlt' : (i : Int) < (es.length : Int) := by omega
      obtain ⟨g, cap, hlv, hcap, d1, -, -, -⟩ := (H.out.ext HE.out).entry hlt
      cases hlv
      obtain ⟨q, hq⟩ : ∃ q, es[i].1 = q := ⟨_, rfl⟩
      rw [hq] at d1
      have hql : q.length ≤ 140737488351232 := by rw [← hq]; exact Nat.le_trans (HES.out _ (List.getElem_mem hlt)) (by decide)
      have HQ := Lib.hid hq
      have HD1 := Lib.hid d1
      clear hq
      go_wp2_with fail
      refine (rless_any q p hql hp _).mono ?_; rintro e w2 ⟨rfl, x2⟩
      obtain ⟨t, ht⟩ : ∃ t, bytesBefore q p = t := ⟨_, rfl⟩
      rw [ht]
      have HE2 := Lib.hid (Ext.trans HE.out x2)
      replace c0 := x2.cell c0
      replace d1 := x2.cell HD1.out
      clear x2
      cases t with
      | true =>
        have HJ2 := Lib.hid (show ∀ j (hj : j < i + 1) (hl : j < es.length), bytesBefore es[j].1 p = true from fun j hj hl => by
          by_cases e : j = i
          · subst e; rw [HQ.out]; exact ht
          · exact HJ.out j (by omega) hl)
        clear ht c0 d1
        go_wp2_with fail
        exact ⟨⟨i + 1, by omega, by go_num, HJ2, HE2⟩, by simp [intOf]; omega⟩
      | false =>
        have hpos : i = pos p es := pos_eq p es i hi (fun j hj => HJ.out j hj (by omega)) (fun h2 => by rw [HQ.out]; exact ht)
        have hgt : (get p es).isSome = (q == p) := by
          have h1 := HPL.out
          rw [← hpos, List.getElem?_eq_getElem hlt] at h1
          simp only [HQ.out] at h1
          rw [h1]
          by_cases e : q = p <;> simp [e]
        have HR := Lib.hid (And.intro hpos hgt)
        clear hpos hgt ht
        go_wp2_with fail
        go_quiet (fail)
        have HF := Lib.hid (Ext.trans HE2.out (Ext.of_drawn w2 nq))
        go_wp2_with fail
        go_ret2
        rw [← HR.out.1, HR.out.2]
        exact ⟨rfl, HF.out⟩
    · obtain rfl : i = es.length := by omega
      clear hlt
      have hpos : es.length = pos p es := pos_eq p es es.length (Nat.le_refl _) (fun j hj => HJ.out j hj hj) (fun h2 => absurd h2 (Nat.lt_irrefl _))
      have hgt : (get p es).isSome = false := by
        have h1 := HPL.out
        rw [← hpos, List.getElem?_eq_none (Nat.le_refl _)] at h1
        rw [h1]; rfl
      have HR := Lib.hid (And.intro hpos hgt)
      clear hpos hgt
      go_wp2_with fail
      go_ret2
      rw [← HR.out.1, HR.out.2]
      exact ⟨rfl, HE.out⟩
theorem tot_take : ∀ (l : L Fil) {i : Nat} (h : i < l.length), tot (l.take (i + 1)) = tot (l.take i) + l[i].2.b.length
  | [], _, h => absurd h (Nat.not_lt_zero _)
  | e :: l, 0, _ => by simp [tot]
  | e :: l, i + 1, h => by
    have := tot_take l (i := i) (by simpa using h)
    rw [List.take_succ_cons, tot_cons, this, List.take_succ_cons, tot_cons, List.getElem_cons_succ]; omega
theorem tot_take_le (l : L Fil) (i : Nat) : tot (l.take i) ≤ tot l := by
  induction l generalizing i with
  | nil => simp
  | cons e l ih =>
    cases i with
    | zero => simp [tot]
    | succ i => rw [List.take_succ_cons, tot_cons, tot_cons]; have := ih i; omega
theorem rused_any (r : Nat) (rf : Option Nat) (lv : Value) (es : L REnt) (d : DS) (w : World) (h : RRaw w r rf lv es d) (hn : es.length ≤ 100000) (ht : tot d.fs ≤ 1099511627776) :
    Calls Tryz.prog 103 #[.pointer (some ⟨r, 0, none⟩)] w fun e w' => e = .returned (.int .i64 (tot d.fs : Nat)) ∧ w = w' := by
  have H := Lib.hid h
  obtain ⟨la, lc, hlv⟩ := h.lst.slice
  subst hlv
  have c0 := h.row.cell (i := 0) (v := .slice la es.length lc) rfl
  have hfl : d.fs.length = es.length := by rw [h.fs]; exact mapv_length _ _
  have HFS := Lib.hid (And.intro h.fs hfl)
  have HT := Lib.hid ht
  clear h hfl ht
  go_enter Tryz.func103, Tryz.ntmps103
  go_wp2_with fail
  go_loop [3, 4] (fun v3 v4 => ∃ i : Nat, i ≤ es.length ∧ v4 = .int .i64 (i : Nat) ∧ v3 = .int .i64 (tot (d.fs.take i) : Nat)) (fun _ v4 => (es.length - intOf v4).toNat)
  case atStart => exact ⟨0, by omega, rfl, rfl⟩
  case round =>
    obtain ⟨i, hi, rfl, rfl⟩ := hrel
    by_cases hlt : i < es.length
    · have hlt' : (i : Int) < (es.length : Int) := by omega
      obtain ⟨g, cap, hlv, hcap, -, d1, -, -⟩ := H.out.entry hlt
      cases hlv
      obtain ⟨xa, xc, hv⟩ := Own.slice' (H.out.file _ (List.getElem_mem hlt))
      rw [bvs_len] at hv
      rw [hv] at d1
      have hst := tot_take d.fs (i := i) (by rw [HFS.out.2]; exact hlt)
      have he : (d.fs[i]'(by rw [HFS.out.2]; exact hlt)).2.b.length = es[i].2.f.b.length := by
        simp only [HFS.out.1, rfils, mapv, List.getElem_map]
      rw [he] at hst
      obtain ⟨n, hnn⟩ : ∃ n, es[i].2.f.b.length = n := ⟨_, rfl⟩
      rw [hnn] at hst d1
      obtain ⟨t, htt⟩ : ∃ t, tot (d.fs.take i) = t := ⟨_, rfl⟩
      have hb := tot_take_le d.fs (i + 1)
      rw [hst, htt] at hb
      have hb2 : t + n ≤ 1099511627776 := Nat.le_trans hb HT.out
      have HST := Lib.hid hst
      rw [htt] at HST ⊢
      clear hst he hnn htt hb hv
      go_wp2_with fail
      exact ⟨⟨i + 1, by omega, by go_num, by rw [HST.out]; go_num⟩, by simp [intOf]; omega⟩
    · obtain rfl : i = es.length := by omega
      have he : tot (d.fs.take es.length) = tot d.fs := by rw [← HFS.out.2, List.take_length]
      rw [he]
      clear hlt he
      go_wp2_with fail
      go_ret
      exact ⟨rfl, rfl⟩
theorem newref_any (n : Int) (rf : Option Nat) (w : World) (hf : ∀ b, rf = some b → b < w.heap.size) :
    Calls Tryz.prog 68 #[.int .i64 n, fptr rf] w fun e w' => e = .returned (.pointer (some ⟨w.heap.size, 0, none⟩)) ∧ RefAt w' w.heap.size rf ⟨mostOf n, false, 0, []⟩ (Grow (fun _ => False) w w') ∧ Ext w w' := by
  have key : ∀ M : Nat, M ≤ 4194304 → RefAt (w.alloc (.cells #[.slice none 0 0, .int .i64 M, fptr rf, .bool false, .int .i64 0] 192)) w.heap.size rf ⟨M, false, 0, []⟩ (Grow (fun _ => False) w (w.alloc (.cells #[.slice none 0 0, .int .i64 M, fptr rf, .bool false, .int .i64 0] 192))) ∧ Ext w (w.alloc (.cells #[.slice none 0 0, .int .i64 M, fptr rf, .bool false, .int .i64 0] 192)) := fun M hM => by
    have hr := Row.new w 192 #[.slice none 0 0, .int .i64 M, fptr rf, .bool false, .int .i64 0]
    refine ⟨⟨.slice none 0 0, [], ⟨hr, OwnK.nil _ _ _ _, Up.nil, by simp, rfl, by simp, hM, by simp⟩, fun b hb => ?_, fun b hb => hb.elim False.elim fun h => h.2, fun b hb hg => ?_⟩, (Ext.refl w).alloc (Nat.le_refl _) _⟩
    · rcases hb with rfl | hb | ⟨e, he, -⟩
      · exact .inr ⟨Nat.le_refl _, by simp⟩
      · cases hb
      · simp at he
    · have := hf b hb
      rcases hg with hg | hg
      · exact hg
      · omega
  have KEY := Lib.hid key
  clear key
  obtain ⟨ad, hfp⟩ : ∃ ad, fptr rf = .pointer ad := ⟨_, rfl⟩
  rw [hfp] at KEY ⊢
  clear hfp hf
  go_enter Tryz.func68, Tryz.ntmps68
  by_cases h0 : n < 0
  · have hm : mostOf n = 0 := by unfold mostOf; rw [if_pos (.inl h0)]
    have HM := Lib.hid hm
    clear hm
    go_wp2_with fail
    go_ret
    rw [HM.out]
    exact ⟨rfl, KEY.out 0 (by omega)⟩
  · by_cases h1 : 4194304 < n
    · have hm : mostOf n = 0 := by unfold mostOf; rw [if_pos (.inr h1)]
      have HM := Lib.hid hm
      clear hm
      go_wp2_with fail
      go_ret
      rw [HM.out]
      exact ⟨rfl, KEY.out 0 (by omega)⟩
    · have hm : mostOf n = n.toNat := by unfold mostOf; rw [if_neg (by omega)]
      obtain ⟨k, rfl⟩ : ∃ k : Nat, n = k := ⟨n.toNat, by omega⟩
      have hk : k ≤ 4194304 := by omega
      have hm2 : mostOf (k : Int) = k := by rw [hm]; omega
      have HM := Lib.hid hm2
      clear hm hm2
      go_wp2_with fail
      go_ret
      rw [HM.out]
      exact ⟨rfl, KEY.out k hk⟩
theorem rset_any (b : Nat) (z : FS) (n : Int) (hn : -9223372036854775808 ≤ n ∧ n ≤ 9223372036854775807) (w : World) (h : RzAt w (some b) (some z)) :
    Calls Tryz.prog 63 #[.pointer (some ⟨b, 0, none⟩), .int .i64 n] w fun e w' => e = .returned (.tuple #[]) ∧ RzAt w' (some b) (some ⟨n, 0, false⟩) ∧ Chg (fun x => x = b) w w' ∧ w'.heap.size = w.heap.size := by
  obtain ⟨h1, -, -⟩ := h
  have r1 := ((h1.set 0 (.int .i64 n)).set 1 (.int .i64 0)).set 2 (.bool false)
  have H := Lib.hid r1
  have c0 := h1.cell (i := 0) (v := .int .i64 z.n) rfl
  have c1 := h1.cell (i := 1) (v := .int .i64 z.ops) rfl
  have c2 := h1.cell (i := 2) (v := .bool z.blown) rfl
  have u0 := h1.unfrozen 0
  have u1 := h1.unfrozen 1
  have u2 := h1.unfrozen 2
  have HN := Lib.hid hn
  clear h1 r1 hn
  go_enter Tryz.func63, Tryz.ntmps63
  go_wp2_with fail
  go_end0
  have r2 := H.out
  refine ⟨rfl, ⟨by simpa using r2, HN.out.1, HN.out.2⟩, (((Chg.refl (fun x => x = b) _).at b 0 (.inl rfl) _).at b 1 (.inl rfl) _).at b 2 (.inl rfl) _, by simp⟩
end Go.Proofs.YthkbbcdnmdjhdaaGreat
/-! XRfC: The reference's disk: remove. -/
namespace Go.Proofs.YthkbbcdnmdjhdaaGreat
open Go.RowKit Dk
set_option maxRecDepth 100000
set_option maxHeartbeats 4000000
attribute [local go_sem] min_int2 max_int2 bstr_toList bstr_size

def zrf : Value := .agg #[.string ByteArray.empty, .slice none 0 0, .bool false]
theorem info_rf : (Tryz.prog.info? 194).map (fun i => (i.zero, i.size, i.bytes)) = some (some zrf, 3, 48) := by kernel_rfl
theorem Own.one {w : World} {B : Nat} {e : TypeId} {v : Value} {cs : List Value} (h : Own w B e v cs) : v.oneCell' = true := by
  obtain ⟨a, c, rfl⟩ := h.slice
  rfl
theorem RRaw.ones {w : World} {r : Nat} {rf : Option Nat} {lv : Value} {es : L REnt} {d : DS} (h : RRaw w r rf lv es d) : ∀ u ∈ rcells es, u.oneCell' = true := rcells_one es fun e he => (h.file e he).one
/-- Another list. -/
theorem RRaw.relist {w w5 : World} {r : Nat} {rf : Option Nat} {lv lv' : Value} {es es' : L REnt} {d : DS} (h : RRaw w r rf lv es d) (hc : Chg (fun b => w.heap.size ≤ b) w w5) (hl : OwnK w5 w.heap.size 194 3 lv' es'.length (rcells es')) (hu : Up es')
    (hf : ∀ e ∈ es', Own w5 0 5 e.2.v (bvs e.2.f.b)) (hp : ∀ e ∈ es', e.1.length ≤ 600) :
    RRaw (w5.setCell ⟨r, 0, none⟩ lv') r rf lv' es' { d with fs := rfils es' } ∧ (∀ b, lv'.ownBlock = some b → w.heap.size ≤ b) ∧ Chg (fun b => b = r) w (w5.setCell ⟨r, 0, none⟩ lv') := by
  have hrl := h.row.lt
  have hr5 := h.row.chg hc (by omega)
  have hs := hr5.set 0 lv'
  have hc2 : Chg (fun b => b = r) w5 (w5.setCell ⟨r, 0, none⟩ lv') := (Chg.refl (fun b => b = r) w5).at r 0 (.inl rfl) lv'
  refine ⟨⟨by simpa using hs, (hl.chg hc2 fun b hb e => by have := hl.block b hb; omega).mono (Nat.zero_le _), hu, fun e he => (hf e he).chg hc2 fun b hb e1 => ?_, rfl, h.nb, h.nm, hp⟩, fun b hb => hl.block b hb, ?_⟩
  · subst e1
    exact (hf e he).ne hr5 (fun e => rty3 e.symm) hb
  · refine ⟨hc2.os.trans hc.os, hc2.tape.trans hc.tape, hc2.output.trans hc.output, Nat.le_trans hc.size hc2.size, fun b hb hn => (hc2.block b (Nat.lt_of_lt_of_le hb hc.size) hn).trans (hc.block b hb (by omega))⟩
theorem remove_any (r : Nat) (rf : Option Nat) (lv : Value) (es : L REnt) (d : DS) (i : Nat) (w : World) (h : RRaw w r rf lv es d) (hi : i < es.length) (hn : es.length ≤ 100000) :
    Calls Tryz.prog 104 #[.pointer (some ⟨r, 0, none⟩), .int .i64 (i : Int)] w fun e w' => e = .returned (.tuple #[]) ∧ (∃ lv', RRaw w' r rf lv' (es.take i ++ es.drop (i + 1)) { d with fs := rfils (es.take i ++ es.drop (i + 1)) } ∧ ∀ b, lv'.ownBlock = some b → w.heap.size ≤ b) ∧ Chg (fun b => b = r) w w' := by
  have H := Lib.hid h
  obtain ⟨g, cap, hlv, hcap, -⟩ := h.entry hi
  subst hlv
  have c0 := h.row.cell (i := 0) (v := .slice (some ⟨g, 0, none⟩) es.length cap) rfl
  obtain ⟨n, hnn⟩ : ∃ n, es.length = n := ⟨_, rfl⟩
  have HNN := Lib.hid hnn
  have SRC1 : Hid (∀ w', Ext w w' → Src Tryz.prog 3 190 (.slice (some ⟨g, 0, none⟩) i cap) i (rcells (es.take i)) w') := Lib.hid fun w' hx => by
    have h1 := (h.ext hx).lst.src (P := Tryz.prog) Tryz.underlying190 h.ones (lo := 0) (hi := i) (Nat.zero_le _) (Nat.le_of_lt hi) (x := .slice (some ⟨g, 0, none⟩) i cap) (fun g' cap' e => by cases e; exact ⟨_, by rw [Nat.zero_mul]; rfl⟩) (fun e => by cases e)
    rw [Nat.zero_mul, List.drop_zero, Nat.sub_zero, rcells_take] at h1
    exact h1
  have NL1 : Hid ((rcells (es.take i)).length = i * 3) := Lib.hid (by rw [rcells_length, List.length_take]; congr 1; omega)
  obtain ⟨j, hj⟩ : ∃ j, i + 1 = j := ⟨_, rfl⟩
  have hjn : j ≤ es.length := by omega
  obtain ⟨ad, had⟩ : ∃ ad : Option Addr, (if cap = j then some ⟨g, 0, none⟩ else some ⟨g, j * 3, none⟩) = ad := ⟨_, rfl⟩
  have SRC2 : Hid (∀ w', Chg (fun b => w.heap.size ≤ b) w w' → Src Tryz.prog 3 190 (.slice ad (es.length - j) (cap - j)) (es.length - j) (rcells (es.drop j)) w') := Lib.hid fun w' hx => by
    have hL := h.lst.chg hx fun b hb hk => by have := h.lst.lt hb; omega
    by_cases hcj : cap = j
    · rw [if_pos hcj] at had
      subst had
      have e1 : es.length - j = 0 := by omega
      have e2 : es.drop j = [] := List.drop_of_length_le (by omega)
      rw [e1, e2]
      exact Src.ofSlice w' Tryz.underlying190 ⟨g, 0, none⟩ 0 _ [] (by simp) (by simp) (by simp)
    · rw [if_neg hcj] at had
      subst had
      have h1 := hL.src (P := Tryz.prog) Tryz.underlying190 h.ones (lo := j) (hi := es.length) hjn (Nat.le_refl _) (x := .slice (some ⟨g, j * 3, none⟩) (es.length - j) (cap - j)) (fun g' cap' e => by cases e; exact ⟨_, rfl⟩) (fun e => by cases e)
      rw [rcells_drop, List.take_of_length_le (by rw [rcells_length, List.length_drop]; exact Nat.le_refl _)] at h1
      exact h1
  have NL2 : Hid ((rcells (es.drop j)).length = (es.length - j) * 3) := Lib.hid (by rw [rcells_length, List.length_drop])
  rw [hnn] at c0 hi hn hcap hjn SRC2 NL2
  have hi' : (i : Int) ≤ (n : Int) := by omega
  have hic : i ≤ cap := by omega
  have hj1 : (i : Int) + 1 = (j : Int) := by omega
  have hj2 : IntKind.i64.wrap (j : Int) = (j : Int) := by rw [IntKind.wrap_i64]; omega
  have hj3 : (0 : Int) ≤ (j : Int) := by omega
  have hj4 : (j : Int) ≤ (n : Int) := by omega
  have HJ := Lib.hid hj
  have u0 := h.row.unfrozen 0
  have hrl := h.row.lt
  clear hj
  clear h hnn
  go_enter Tryz.func104, Tryz.ntmps104
  go_wp2_with fail
  have hS : (fun w' : World => w'.cell? ⟨r, 0, none⟩ = some (.slice (some ⟨g, 0, none⟩) n cap)) w.drew := c0
  refine wp_cut [4, 5, 6, 7, 8, 9, 10, 11, 12, 13, 14, 15, 16, 17, 18, 19, 20, 21] (fun w8 => (∃ lv', RRaw w8 r rf lv' (es.take i ++ es.drop (i + 1)) { d with fs := rfils (es.take i ++ es.drop (i + 1)) } ∧ ∀ b, lv'.ownBlock = some b → w.heap.size ≤ b) ∧ Chg (fun b => b = r) w w8) ?_ ?_
  · refine wp_region_U (fun w' : World => w'.cell? ⟨r, 0, none⟩ = some (.slice (some ⟨g, 0, none⟩) n cap)) 18 (by kernel_rfl) ?_
    refine wpU_pureH (i := 0) (j := 4) (v := ?_) rfl rfl (by kernel_rfl) (by kernel_rfl) (by kernel_rfl) (by decide) (fun _ _ _ h => h) (fun _ => hS) (Or.inl ⟨by kernel_rfl, fun _ _ => ?_⟩) ?_
    rotate_left
    · go_simp
      try with_reducible rfl
    refine wpU_pureH (i := 1) (j := 5) (v := ?_) rfl rfl (by kernel_rfl) (by kernel_rfl) (by kernel_rfl) (by decide) (fun _ _ _ h => h) (fun _ => hS) (Or.inl ⟨by kernel_rfl, fun _ _ => ?_⟩) ?_
    rotate_left
    · go_simp
      try with_reducible rfl
    refine wpU_pureH (i := 2) (j := 6) (v := ?_) rfl rfl (by kernel_rfl) (by kernel_rfl) (by kernel_rfl) (by decide) (fun _ _ _ h => h) (fun _ => hS) (Or.inl ⟨by kernel_rfl, fun _ _ => ?_⟩) ?_
    rotate_left
    · go_simp
      try with_reducible rfl
    refine wpU_pureH (i := 3) (j := 7) (v := ?_) rfl rfl (by kernel_rfl) (by kernel_rfl) (by kernel_rfl) (by decide) (fun _ _ _ h => h) (fun _ => hS) (Or.inl ⟨by kernel_rfl, fun _ _ => ?_⟩) ?_
    rotate_left
    · go_simp
      try with_reducible rfl
    refine wpU_loadH (i := 4) (j := 8) (v := ?_) rfl rfl (by kernel_rfl) (by kernel_rfl) (by kernel_rfl) (by decide) (by kernel_rfl) (by kernel_rfl) (fun _ _ _ h => h) hS (Or.inl ⟨by kernel_rfl, fun wl hl => ?_⟩) ?_
    rotate_left
    · obtain l0 := hl
      go_simp
      try with_reducible rfl
    refine wpU_pureH (i := 5) (j := 9) (v := ?_) rfl rfl (by kernel_rfl) (by kernel_rfl) (by kernel_rfl) (by decide) (fun _ _ _ h => h) (fun _ => hS) (Or.inl ⟨by kernel_rfl, fun _ _ => ?_⟩) ?_
    rotate_left
    · go_simp
      try with_reducible rfl
    refine wpU_pureH (i := 6) (j := 10) (v := ?_) rfl rfl (by kernel_rfl) (by kernel_rfl) (by kernel_rfl) (by decide) (fun _ _ _ h => h) (fun _ => hS) (Or.inl ⟨by kernel_rfl, fun _ _ => ?_⟩) ?_
    rotate_left
    · go_simp
      try with_reducible rfl
    refine wpU_pureH (i := 8) (j := 12) (v := ?_) rfl rfl (by kernel_rfl) (by kernel_rfl) (by kernel_rfl) (by decide) (fun _ _ _ h => h) (fun _ => hS) (Or.inl ⟨by kernel_rfl, fun _ _ => ?_⟩) ?_
    rotate_left
    · go_simp
      try with_reducible rfl
    refine wpU_pureH (i := 9) (j := 13) (v := ?_) rfl rfl (by kernel_rfl) (by kernel_rfl) (by kernel_rfl) (by decide) (fun _ _ _ h => h) (fun _ => hS) (Or.inl ⟨by kernel_rfl, fun _ _ => ?_⟩) ?_
    rotate_left
    · go_simp
      try with_reducible rfl
    refine wpU_pureH (i := 10) (j := 14) (v := ?_) rfl rfl (by kernel_rfl) (by kernel_rfl) (by kernel_rfl) (by decide) (fun _ _ _ h => h) (fun _ => hS) (Or.inl ⟨by kernel_rfl, fun _ _ => ?_⟩) ?_
    rotate_left
    · go_simp
      try with_reducible rfl
    refine wpU_loadH (i := 11) (j := 15) (v := ?_) rfl rfl (by kernel_rfl) (by kernel_rfl) (by kernel_rfl) (by decide) (by kernel_rfl) (by kernel_rfl) (fun _ _ _ h => h) hS (Or.inl ⟨by kernel_rfl, fun wl hl => ?_⟩) ?_
    rotate_left
    · obtain l0 := hl
      go_simp
      try with_reducible rfl
    refine wpU_pureH (i := 12) (j := 16) (v := ?_) rfl rfl (by kernel_rfl) (by kernel_rfl) (by kernel_rfl) (by decide) (fun _ _ _ h => h) (fun _ => hS) (Or.inl ⟨by kernel_rfl, fun _ _ => ?_⟩) ?_
    rotate_left
    · go_simp
      try with_reducible rfl
    refine wpU_pureH (i := 13) (j := 17) (v := ?_) rfl rfl (by kernel_rfl) (by kernel_rfl) (by kernel_rfl) (by decide) (fun _ _ _ h => h) (fun _ => hS) (Or.inl ⟨by kernel_rfl, fun _ _ => ?_⟩) ?_
    rotate_left
    · go_simp
      try with_reducible rfl
    refine wpU_pureH (i := 14) (j := 18) (v := ?_) rfl rfl (by kernel_rfl) (by kernel_rfl) (by kernel_rfl) (by decide) (fun _ _ _ h => h) (fun _ => hS) (Or.inl ⟨by kernel_rfl, fun _ _ => ?_⟩) ?_
    rotate_left
    · go_simp
      try with_reducible rfl
    refine wpU_all [7] (by kernel_rfl) (by simp) ?_
    refine ReadyU.cons rfl (fun K hK => ?_) ReadyU.nil
    refine step_of_wp rfl (wp_appk (B := w.heap.size) _ _ 190 190 194 zrf 3 48 rfl Tryz.underlying190 info_rf rfl rfl (OwnK.nil _ _ _ _) (by go_simp) (SRC1.out _ (Ext.of_drawn w 1)) (by rw [NL1.out]) (by unfold maxLen; omega) (by omega) (Nat.le_refl _) fun a1 c4 w4 ha => ?_)
    have hc4 : Chg (fun _ => False) w w4 := (Chg.of_ext (Ext.of_drawn w 1) _).trans ((Chg.refl (fun _ => False) w.drew).grown ha.2.1 (fun k hk => by cases hk))
    have hS := hc4.cell c0 (fun h => h)
    refine hK.out _ _ (fun _ => hS) ?_
    refine wpU_putH (j := 11) rfl ?_
    clear hK K
    have HA1 := Lib.hid (And.intro ha.1 (hc4.mono (T := fun b => w.heap.size ≤ b) fun _ _ h => h.elim))
    clear ha hc4
    refine wpU_all [15] (by kernel_rfl) (by simp) ?_
    refine ReadyU.cons rfl (fun K hK => ?_) ReadyU.nil
    refine step_of_wp rfl (wp_appk (B := w.heap.size) _ _ 190 190 194 zrf 3 48 rfl Tryz.underlying190 info_rf rfl (by go_simp) HA1.out.1 (by go_simp) (SRC2.out _ HA1.out.2) (by rw [NL2.out]) (by unfold maxLen; omega) (by omega) HA1.out.2.size fun a2 c5 w5 ha => ?_)
    have hc5 : Chg (fun b => w.heap.size ≤ b) w w5 := HA1.out.2.trans ((Chg.refl (fun b => w.heap.size ≤ b) w4).grown ha.2.1 (fun k hk => .inl (HA1.out.1.block k hk)))
    have hS := hc5.cell c0 (show ¬ w.heap.size ≤ r by omega)
    have u5 := hc5.unfrozen c0 u0 (show ¬ w.heap.size ≤ r by omega)
    refine hK.out _ _ (fun _ => hS) ?_
    refine wpU_putH (j := 19) rfl ?_
    clear hK K
    have hll : (es.take i ++ es.drop j).length = 0 + i + (n - j) := by rw [List.length_append, List.length_take, List.length_drop, HNN.out]; omega
    have ho := ha.1
    have ecs : ([] ++ rcells (List.take i es)) ++ rcells (List.drop j es) = rcells (es.take i ++ es.drop j) := by rw [List.nil_append, rcells_append]
    rw [ecs, ← hll] at ho
    have hsub : ∀ e ∈ es.take i ++ es.drop j, e ∈ es := fun e he => (List.mem_append.1 he).elim List.mem_of_mem_take List.mem_of_mem_drop
    have hup : Up (es.take i ++ es.drop j) := by
      refine List.Pairwise.sublist ?_ H.out.up
      have h1 : (es.take i ++ es.drop j).Sublist (es.take i ++ es.drop i) := (List.Sublist.refl _).append (List.drop_sublist_drop_left _ (by have := HJ.out; omega))
      rwa [List.take_append_drop] at h1
    have FIN := H.out.relist hc5 ho hup (fun e he => (H.out.file e (hsub e he)).chg hc5 fun b hb hk => by have := (H.out.file e (hsub e he)).lt hb; omega) (fun e he => H.out.pl e (hsub e he))
    rw [Nat.zero_add] at hll
    rw [hll] at FIN
    have hfin : (∃ lv', RRaw (w5.setCell ⟨r, 0, none⟩ (.slice a2 (i + (n - j)) c5)) r rf lv' (es.take i ++ es.drop (i + 1)) { d with fs := rfils (es.take i ++ es.drop (i + 1)) } ∧ ∀ b, lv'.ownBlock = some b → w.heap.size ≤ b) ∧ Chg (fun b => b = r) w (w5.setCell ⟨r, 0, none⟩ (.slice a2 (i + (n - j)) c5)) := by
      rw [HJ.out]
      exact ⟨⟨_, FIN.1, FIN.2.1⟩, FIN.2.2⟩
    have FIN := Lib.hid hfin
    clear ha hc5 ho hup hsub ecs hfin hll
    refine wpU_pureH (i := 16) (j := 20) (v := ?_) rfl rfl (by kernel_rfl) (by kernel_rfl) (by kernel_rfl) (by decide) (fun _ _ _ h => h) (fun _ => hS) (Or.inl ⟨by kernel_rfl, fun _ _ => ?_⟩) ?_
    rotate_left
    · go_simp
      try with_reducible rfl
    refine wpU_pureH (i := 17) (j := 21) (v := ?_) rfl rfl (by kernel_rfl) (by kernel_rfl) (by kernel_rfl) (by decide) (fun _ _ _ h => h) (fun _ => hS) (Or.inl ⟨by kernel_rfl, fun _ _ => ?_⟩) ?_
    rotate_left
    · go_simp
      try with_reducible rfl
    refine wpU_all [18] (by kernel_rfl) (by simp) ?_
    refine ReadyU.cons rfl (fun K hK => ?_) ReadyU.nil
    simp only [List.set_cons_zero, List.set_cons_succ]
    go_simp
    refine hK.out _ _ (fun h => Bool.noConfusion (show true = false from h)) ?_
    clear hK K
    refine wpU_done (by kernel_rfl) ?_ _
    exact cut_end FIN.out (by kernel_rfl)
  · intro us w8 h8
    have H8 := Lib.hid h8
    clear h8 hS c0
    simp only [setAll, List.foldl_cons, List.foldl_nil, List.set_cons_zero, List.set_cons_succ]
    go_wp2_with fail
    go_end0
    exact ⟨rfl, H8.out⟩
end Go.Proofs.YthkbbcdnmdjhdaaGreat
/-! XRfD: The reference's disk: Read, Sync, Delete. -/
namespace Go.Proofs.YthkbbcdnmdjhdaaGreat
open Go.RowKit Dk
set_option maxRecDepth 100000
set_option maxHeartbeats 4000000
attribute [local go_sem] min_int2 max_int2 bstr_toList bstr_size

/-- What an operation of the reference leaves. -/
def RefOut (r : Nat) (rf : Option Nat) (S : Nat → Prop) (w : World) (res : Nat × Option FS × DS) (e : Ending) (w' : World) : Prop :=
  e = .returned (.int .i64 (res.1 : Nat)) ∧ RzAt w' rf res.2.1 ∧ RefAt w' r rf res.2.2 (Grow S w w') ∧ Chg (fun b => S b ∨ rf = some b) w w'
theorem RRaw.refAt {w w' : World} {r : Nat} {rf : Option Nat} {lv : Value} {es : L REnt} {d : DS} {S : Nat → Prop} (h : RRaw w' r rf lv es d) (h1 : ∀ b, RFoot r lv es b → Grow S w w' b) (h2 : ∀ b, S b → b < w.heap.size) (h3 : ∀ b, rf = some b → ¬ S b) (h4 : ∀ b, rf = some b → b < w.heap.size) (hs : w.heap.size ≤ w'.heap.size) : RefAt w' r rf d (Grow S w w') :=
  ⟨lv, es, h, h1, fun b hb => hb.elim (fun hb => Nat.lt_of_lt_of_le (h2 b hb) hs) fun hb => hb.2, fun b hb hg => hg.elim (h3 b hb) fun hg => by have := h4 b hb; omega⟩
theorem RRaw.refAt' {w w' : World} {r : Nat} {rf : Option Nat} {lv : Value} {es : L REnt} {d : DS} {S : Nat → Prop} (h : RRaw w' r rf lv es d) (h1 : ∀ b, RFoot r lv es b → S b) (h2 : ∀ b, S b → b < w.heap.size) (h3 : ∀ b, rf = some b → ¬ S b) (hs : w.heap.size ≤ w'.heap.size) : RefAt w' r rf d S :=
  ⟨lv, es, h, h1, fun b hb => Nat.lt_of_lt_of_le (h2 b hb) hs, h3⟩
theorem info_b1 : (Tryz.prog.info? 5).map (fun i => (i.zero, i.size, i.bytes)) = some (some (.int .u8 0), 1, 1) := by kernel_rfl
def RReadOut (r : Nat) (rf : Option Nat) (z : Option FS) (d : DS) (S : Nat → Prop) (p : Path) (w : World) (e : Ending) (w' : World) : Prop :=
  ∃ u, e = .returned (.tuple #[u, .int .i64 (opens z d p [] : Nat)]) ∧ Own w' w.heap.size 5 u (bvs (readb z d p)) ∧ RzAt w' rf (begins z d [p]).2.1 ∧ RefAt w' r rf (begins z d [p]).2.2 S ∧ Chg (fun b => S b ∨ rf = some b) w w'
theorem rread_any (r : Nat) (rf : Option Nat) (z : Option FS) (d : DS) (S : Nat → Prop) (p : Path) (w : World) (h : RefAt w r rf d S) (hz : RzAt w rf z) (hzo : zops z < 1099511627776) (hp : p.length ≤ maxLen) (hn : d.fs.length ≤ 4096) (ht : tot d.fs ≤ 5000000) :
    Calls Tryz.prog 75 #[.pointer (some ⟨r, 0, none⟩), .string (bstr p)] w (RReadOut r rf z d S p w) := by
  obtain ⟨lv, es, h, hS1, hS2, hS3⟩ := h
  have x0 : Ext w (w.alloc (.cells #[.string (bstr p)] 9)) := (Ext.refl w).alloc (Nat.le_refl _) _
  have hst := Strs.one w p
  obtain ⟨w1, hw1⟩ : ∃ w1, w.alloc (.cells #[.string (bstr p)] 9) = w1 := ⟨_, rfl⟩
  have HW1 := Lib.hid hw1
  rw [hw1] at x0 hst
  have H := Lib.hid (And.intro (h.ext x0) (And.intro (hz.chg (Chg.of_ext x0 (fun _ => False)) (fun _ _ h => h)) (And.intro hst x0)))
  have HS := Lib.hid (And.intro hS1 (And.intro hS2 (And.intro hS3 (fun b hb => hz.lt b hb))))
  have hlen : es.length ≤ 4096 := by have h1 := h.fs; rw [h1] at hn; simpa [rfils, mapv_length] using hn
  have HP := Lib.hid hp
  clear h hz hS1 hS2 hS3 hst hw1 x0 hp
  go_enter Tryz.func75, Tryz.ntmps75
  go_wp2_with fail
  rw [HW1.out]
  refine (ask_any r rf z lv es d [p] _ _ H.out.1 H.out.2.1 hzo (by simp) (by simpa using HP.out) H.out.2.2.1).mono ?_; rintro e w2 ⟨rfl, hz2, h2, hg2, hsz2⟩
  have HG2 := Lib.hid ((Chg.of_ext H.out.2.2.2 (fun b => S b ∨ rf = some b)).trans (hg2.mono (T := fun b => S b ∨ rf = some b) fun b _ hb => by
    rcases hb with rfl | hb
    · exact .inl (HS.out.1 _ (.inl rfl))
    · exact .inr hb))
  have HGR := Lib.hid ((Chg.of_ext H.out.2.2.2 (fun b => b = r ∨ rf = some b)).trans hg2)
  have HZ2 := Lib.hid hz2
  have H2 := Lib.hid h2
  have HFS := Lib.hid (H.out.1.fs)
  clear hz2 h2 hg2 hsz2 HW1
  obtain ⟨n, hnn⟩ : ∃ n, (begins z d [p]).1 = n := ⟨_, rfl⟩
  rw [hnn]
  have HN := Lib.hid hnn
  clear hnn
  by_cases h0 : n = 0
  case neg =>
    have q1 : ((n : Int) != 0) = true := by simp; omega
    have HO := Lib.hid (show opens z d p [] = n by unfold opens; rw [HN.out, if_neg h0])
    have HNZ := Lib.hid h0
    clear h0
    go_wp2_with fail
    go_ret2
    exact ⟨.slice none 0 0, by rw [HO.out]; rfl, by rw [show readb z d p = [] by unfold readb; rw [HO.out, if_neg HNZ.out]]; exact Own.nil _ _ _, HZ2.out, H2.out.refAt' HS.out.1 HS.out.2.1 HS.out.2.2.1 HG2.out.size, HG2.out⟩
  subst h0
  have q1 : (((0 : Nat) : Int) != 0) = false := rfl
  have hokp : okP p = true := by
    have h1 := HN.out
    unfold begins at h1
    by_cases c1 : (ticks z).1 = false
    · rw [if_pos c1] at h1; cases h1
    · rw [if_neg c1] at h1
      by_cases c2 : d.off = true
      · rw [if_pos c2] at h1; cases h1
      · rw [if_neg c2] at h1
        by_cases c3 : 0 < d.bad
        · rw [if_pos c3] at h1; cases h1
        · rw [if_neg c3] at h1
          by_cases c4 : [p].all okP = true
          · simpa using c4
          · rw [if_neg c4] at h1; cases h1
  have HOK := Lib.hid hokp
  clear hokp
  go_wp2_with fail
  refine (at_any r rf lv es _ p _ H2.out (by omega) (Nat.le_trans (by have := HOK.out; unfold okP at this; exact (of_decide_eq_true this).2) (by decide))).mono ?_; rintro e w3 ⟨rfl, x3⟩
  have H3 := Lib.hid (H2.out.ext x3)
  have HZ3 := Lib.hid (HZ2.out.chg (Chg.of_ext x3 (fun _ => False)) (fun _ _ h => h))
  have HG3 := Lib.hid (HG2.out.trans (Chg.of_ext x3 _))
  clear x3 H2 HZ2 HG2
  cases hx : get p es with
  | none =>
    have HO := Lib.hid (show opens z d p [] = 6 by unfold opens; rw [HN.out, if_pos rfl, HFS.out]; unfold rfils; rw [get_mapv, hx]; rfl)
    go_wp2_with fail
    go_ret2
    exact ⟨.slice none 0 0, by rw [HO.out]; rfl, by rw [show readb z d p = [] by unfold readb; rw [HO.out, if_neg (by decide)]]; exact Own.nil _ _ _, HZ3.out, H3.out.refAt' HS.out.1 HS.out.2.1 HS.out.2.2.1 HG3.out.size, HG3.out⟩
  | some x =>
    have HO := Lib.hid (show opens z d p [] = 0 by unfold opens; rw [HN.out, if_pos rfl, HFS.out]; unfold rfils; rw [get_mapv, hx]; rfl)
    have HGX := Lib.hid (show get p d.fs = some x.f by rw [HFS.out]; unfold rfils; rw [get_mapv, hx]; rfl)
    obtain ⟨hpl, hpe⟩ := there_at H3.out.up hx
    have HX := Lib.hid (And.intro hx hpe)
    clear hx
    obtain ⟨g, cap, hlv, hcap, -, d1, -, -⟩ := H3.out.entry hpl
    subst hlv
    have c0 := H3.out.row.cell (i := 0) (v := .slice (some ⟨g, 0, none⟩) es.length cap) rfl
    rw [hpe] at d1
    have hfile := H3.out.file _ (get_mem HX.out.1)
    obtain ⟨xa, xc, hv⟩ := Own.slice' hfile
    rw [bvs_len] at hv
    have hv : x.v = .slice xa x.f.b.length xc := hv
    have hbl : x.f.b.length ≤ 5000000 := by
      have := tot_mem (l := d.fs) (e := (p, x.f)) (get_mem HGX.out)
      have h2 : x.f.b.length ≤ tot d.fs := this
      omega
    have hsrc := hfile.cells
    rw [show (p, x).2.v = x.v from rfl] at d1 hsrc
    rw [hv] at d1 hsrc
    have HSRC := Lib.hid (And.intro (Cells.src (P := Tryz.prog) Tryz.underlying24 hsrc (bvs_one _)) hbl)
    have hpi : ((pos p es : Nat) : Int) < (es.length : Int) := by omega
    obtain ⟨q, hq⟩ : ∃ q, pos p es = q := ⟨_, rfl⟩
    rw [hq] at d1 hpi ⊢
    clear hpe hfile hv hsrc hbl
    go_wp2_with (at_builtin; refine list_of_wp rfl fun K hK => wp_appx (B := w3.heap.size) _ _ 24 24 5 (.int .u8 0) 1 rfl Tryz.underlying24 info_b1 rfl rfl (Own.nil _ _ _) rfl HSRC.out.1 (by have := HSRC.out.2; rw [bvs_len]; simp [maxLen]; omega) (by have := HSRC.out.2; rw [bvs_len]; simp; omega) (Nat.le_refl _) x.f.b.length (by rw [bvs_len]; simp) fun ad c4 w4 ha => hK _ _ ?_)
    have hx4 : Ext w3 w4 := Ext.grown ha.2.1 (fun k hk => by cases hk)
    have HU := Lib.hid (show Own w4 w.heap.size 5 (.slice ad x.f.b.length c4) (bvs (readb z d p)) by
      rw [show readb z d p = x.f.b by unfold readb; rw [HO.out, if_pos rfl, HGX.out]]
      exact (ha.1).mono HG3.out.size)
    have H4 := Lib.hid (H3.out.ext hx4)
    have HZ4 := Lib.hid (HZ3.out.chg (Chg.of_ext hx4 (fun _ => False)) (fun _ _ h => h))
    have HG4 := Lib.hid (HG3.out.trans (Chg.of_ext hx4 _))
    clear ha hx4
    go_wp2_with fail
    go_ret2
    exact ⟨_, by rw [HO.out]; rfl, HU.out, HZ4.out, H4.out.refAt' HS.out.1 HS.out.2.1 HS.out.2.2.1 HG4.out.size, HG4.out⟩
theorem rcells_mark : ∀ (es : L REnt) (i : Nat) (h : i < es.length) {p : Path} {x : REnt}, es[i] = (p, x) → ∀ b : Bool, (rcells es).set (i * 3 + 2) (.bool b) = rcells (es.set i (p, ⟨x.v, ⟨x.f.b, b⟩⟩))
  | [], _, h, _, _, _, _ => absurd h (Nat.not_lt_zero _)
  | e :: es, 0, _, p, x, he, b => by
    simp only [List.getElem_cons_zero] at he
    subst he
    rfl
  | e :: es, i + 1, h, p, x, he, b => by
    have := rcells_mark es i (by simpa using h) (p := p) (x := x) (by simpa using he) b
    rw [List.set_cons_succ, rcells_cons, rcells_cons, ← this, show (i + 1) * 3 + 2 = (i * 3 + 2) + 1 + 1 + 1 by omega]
    rfl
/-- One of the files' cells written: its mark. -/
theorem RRaw.mark {w : World} {r : Nat} {rf : Option Nat} {es : L REnt} {d : DS} {g cap : Nat} (h : RRaw w r rf (.slice (some ⟨g, 0, none⟩) es.length cap) es d) {p : Path} {x : REnt} (hx : get p es = some x) {x' : REnt} (hne : x'.v.ownBlock ≠ some g)
    {w' : World} (hc : Chg (fun b => b = g) w w') (hl : OwnK w' 0 194 3 (.slice (some ⟨g, 0, none⟩) es.length cap) es.length (rcells (put p x' es))) (hb' : Own w' 0 5 x'.v (bvs x'.f.b)) : RRaw w' r rf (.slice (some ⟨g, 0, none⟩) es.length cap) (put p x' es) { d with fs := put p x'.f d.fs } := by
  have hg := h.self.1
  have hlen : (put p x' es).length = es.length := by rw [put_length h.up, hx]; rfl
  have hgr : ¬ r = g := fun e => hg (by rw [e]; rfl)
  refine ⟨h.row.chg hc hgr, by rw [hlen]; exact hl, put_up h.up, fun e he => ?_, ?_, h.nb, h.nm, fun e he => ?_⟩
  · rcases mem_put.1 he with rfl | ⟨he, -⟩
    · exact hb'
    · refine (h.file e he).chg hc fun b hb e1 => ?_
      subst e1
      obtain ⟨cur, hr⟩ := h.lst.row (b := b) rfl
      exact (h.file e he).ne hr (fun e => rty4 e.symm) hb
  · show put p x'.f d.fs = rfils (put p x' es)
    rw [h.fs]
    exact put_mapv (fun y : REnt => y.f) p x' es
  · rcases mem_put.1 he with rfl | ⟨he, -⟩
    · exact h.pl (p, x) (get_mem hx)
    · exact h.pl e he
theorem rsync_any (r : Nat) (rf : Option Nat) (z : Option FS) (d : DS) (S : Nat → Prop) (p : Path) (w : World) (h : RefAt w r rf d S) (hz : RzAt w rf z) (hzo : zops z < 1099511627776) (hp : p.length ≤ maxLen) (hn : d.fs.length ≤ 4096) :
    Calls Tryz.prog 77 #[.pointer (some ⟨r, 0, none⟩), .string (bstr p)] w (RefOut r rf S w (syncs z d p)) := by
  obtain ⟨lv, es, h, hS1, hS2, hS3⟩ := h
  have x0 : Ext w (w.alloc (.cells #[.string (bstr p)] 9)) := (Ext.refl w).alloc (Nat.le_refl _) _
  have hst := Strs.one w p
  obtain ⟨w1, hw1⟩ : ∃ w1, w.alloc (.cells #[.string (bstr p)] 9) = w1 := ⟨_, rfl⟩
  have HW1 := Lib.hid hw1
  rw [hw1] at x0 hst
  have H := Lib.hid (And.intro (h.ext x0) (And.intro (hz.chg (Chg.of_ext x0 (fun _ => False)) (fun _ _ h => h)) (And.intro hst x0)))
  have HS := Lib.hid (And.intro hS1 (And.intro hS2 (And.intro hS3 (fun b hb => hz.lt b hb))))
  have hlen : es.length ≤ 4096 := by have h1 := h.fs; rw [h1] at hn; simpa [rfils, mapv_length] using hn
  have HP := Lib.hid hp
  clear h hz hS1 hS2 hS3 hst hw1 x0 hp
  go_enter Tryz.func77, Tryz.ntmps77
  go_wp2_with fail
  rw [HW1.out]
  refine (ask_any r rf z lv es d [p] _ _ H.out.1 H.out.2.1 hzo (by simp) (by simpa using HP.out) H.out.2.2.1).mono ?_; rintro e w2 ⟨rfl, hz2, h2, hg2, hsz2⟩
  have HG2 := Lib.hid ((Chg.of_ext H.out.2.2.2 (fun b => S b ∨ rf = some b)).trans (hg2.mono (T := fun b => S b ∨ rf = some b) fun b _ hb => by
    rcases hb with rfl | hb
    · exact .inl (HS.out.1 _ (.inl rfl))
    · exact .inr hb))
  have HGR := Lib.hid ((Chg.of_ext H.out.2.2.2 (fun b => b = r ∨ rf = some b)).trans hg2)
  have HZ2 := Lib.hid hz2
  have H2 := Lib.hid h2
  have HFS := Lib.hid (H.out.1.fs)
  clear hz2 h2 hg2 hsz2 HW1
  obtain ⟨n, hnn⟩ : ∃ n, (begins z d [p]).1 = n := ⟨_, rfl⟩
  rw [hnn]
  have HN := Lib.hid hnn
  clear hnn
  by_cases h0 : n = 0
  case neg =>
    have q1 : ((n : Int) != 0) = true := by simp; omega
    have HO := Lib.hid (show opens z d p [] = n by unfold opens; rw [HN.out, if_neg h0])
    have HNZ := Lib.hid h0
    clear h0
    go_wp2_with fail
    go_ret
    have HR := Lib.hid (show syncs z d p = (n, (begins z d [p]).2) by unfold syncs; rw [HO.out, if_neg HNZ.out])
    unfold RefOut
    rw [HR.out]
    exact ⟨rfl, HZ2.out, H2.out.refAt (fun b hb => .inl (HS.out.1 b hb)) HS.out.2.1 HS.out.2.2.1 HS.out.2.2.2 HG2.out.size, HG2.out⟩
  subst h0
  have q1 : (((0 : Nat) : Int) != 0) = false := rfl
  have hokp : okP p = true := by
    have h1 := HN.out
    unfold begins at h1
    by_cases c1 : (ticks z).1 = false
    · rw [if_pos c1] at h1; cases h1
    · rw [if_neg c1] at h1
      by_cases c2 : d.off = true
      · rw [if_pos c2] at h1; cases h1
      · rw [if_neg c2] at h1
        by_cases c3 : 0 < d.bad
        · rw [if_pos c3] at h1; cases h1
        · rw [if_neg c3] at h1
          by_cases c4 : [p].all okP = true
          · simpa using c4
          · rw [if_neg c4] at h1; cases h1
  have HOK := Lib.hid hokp
  clear hokp
  go_wp2_with fail
  refine (at_any r rf lv es _ p _ H2.out (by omega) (Nat.le_trans (by have := HOK.out; unfold okP at this; exact (of_decide_eq_true this).2) (by decide))).mono ?_; rintro e w3 ⟨rfl, x3⟩
  have H3 := Lib.hid (H2.out.ext x3)
  have HZ3 := Lib.hid (HZ2.out.chg (Chg.of_ext x3 (fun _ => False)) (fun _ _ h => h))
  have HG3 := Lib.hid (HG2.out.trans (Chg.of_ext x3 _))
  clear x3 H2 HZ2 HG2
  cases hx : get p es with
  | none =>
    have HO := Lib.hid (show opens z d p [] = 6 by unfold opens; rw [HN.out, if_pos rfl, HFS.out]; unfold rfils; rw [get_mapv, hx]; rfl)
    go_wp2_with fail
    go_ret
    have HR := Lib.hid (show syncs z d p = (6, (begins z d [p]).2) by unfold syncs; rw [HO.out, if_neg (by decide)])
    unfold RefOut
    rw [HR.out]
    exact ⟨rfl, HZ3.out, H3.out.refAt (fun b hb => .inl (HS.out.1 b hb)) HS.out.2.1 HS.out.2.2.1 HS.out.2.2.2 HG3.out.size, HG3.out⟩
  | some x =>
    have HO := Lib.hid (show opens z d p [] = 0 by unfold opens; rw [HN.out, if_pos rfl, HFS.out]; unfold rfils; rw [get_mapv, hx]; rfl)
    have HGX := Lib.hid (show get p d.fs = some x.f by rw [HFS.out]; unfold rfils; rw [get_mapv, hx]; rfl)
    obtain ⟨hpl, hpe⟩ := there_at H3.out.up hx
    have HX := Lib.hid (And.intro hx hpe)
    clear hx
    obtain ⟨g, cap, hlv, hcap, -, -, d2, du⟩ := H3.out.entry hpl
    subst hlv
    have c0 := H3.out.row.cell (i := 0) (v := .slice (some ⟨g, 0, none⟩) es.length cap) rfl
    have u2 := du (pos p es * 3 + 2)
    have hgS : S g := HS.out.1 g (.inr (.inl rfl))
    have hcs : (rcells es).set (pos p es * 3 + 2) (.bool true) = rcells (put p ⟨x.v, ⟨x.f.b, true⟩⟩ es) := by
      rw [put_there H3.out.up HX.out.1]
      exact rcells_mark es _ hpl (by rw [hpe]) true
    have hset := H3.out.lst.set (pos p es * 3 + 2) (.bool true)
    rw [hcs] at hset
    have hcg : Chg (fun b => b = g) w3 (w3.setCell ⟨g, pos p es * 3 + 2, none⟩ (.bool true)) := (Chg.refl (fun b => b = g) w3).at g _ (.inl rfl) _
    have hfile := H3.out.file _ (get_mem HX.out.1)
    have hne : x.v.ownBlock ≠ some g := fun e => by
      obtain ⟨cur, hr⟩ := H3.out.lst.row (b := g) rfl
      exact hfile.ne hr (fun e => rty4 e.symm) e
    have H4 := Lib.hid (H3.out.mark (x' := ⟨x.v, ⟨x.f.b, true⟩⟩) HX.out.1 hne hcg hset (hfile.chg hcg fun b hb e => hne (by rw [hb, e])))
    have HZ4 := Lib.hid (HZ3.out.chg hcg fun b hb e => HS.out.2.2.1 b hb (by rw [e]; exact hgS))
    have HG4 := Lib.hid (HG3.out.trans (hcg.mono fun b _ hb => by subst hb; exact .inl hgS))
    have HR := Lib.hid (show syncs z d p = (0, (begins z d [p]).2.1, { (begins z d [p]).2.2 with fs := put p ⟨x.f.b, true⟩ d.fs }) by unfold syncs; rw [HO.out, if_pos rfl, HGX.out])
    have HF := Lib.hid (show ∀ b, RFoot r (.slice (some ⟨g, 0, none⟩) es.length cap) (put p ⟨x.v, ⟨x.f.b, true⟩⟩ es) b → S b from fun b hb => by
      rcases hb with hb | hb | ⟨e, he, hb⟩
      · exact HS.out.1 b (.inl hb)
      · exact HS.out.1 b (.inr (.inl hb))
      · rcases mem_put.1 he with rfl | ⟨he, -⟩
        · exact HS.out.1 b (.inr (.inr ⟨_, get_mem HX.out.1, hb⟩))
        · exact HS.out.1 b (.inr (.inr ⟨e, he, hb⟩)))
    have hpi : ((pos p es : Nat) : Int) < (es.length : Int) := by omega
    obtain ⟨q, hq⟩ : ∃ q, pos p es = q := ⟨_, rfl⟩
    obtain ⟨sv, hsv⟩ : ∃ sv, es[pos p es].2.f.sure = sv := ⟨_, rfl⟩
    rw [hsv] at d2
    clear hsv
    rw [hq] at d2 hpi u2 H4 HZ4 HG4 ⊢
    clear hpe hcs hset hcg hfile hne du
    go_wp2_with fail
    go_ret
    unfold RefOut
    rw [HR.out]
    have h4 := H4.out
    rw [begins_fs] at h4
    exact ⟨rfl, HZ4.out, h4.refAt (fun b hb => .inl (HF.out b hb)) HS.out.2.1 HS.out.2.2.1 HS.out.2.2.2 HG4.out.size, HG4.out⟩
theorem rdelete_any (r : Nat) (rf : Option Nat) (z : Option FS) (d : DS) (S : Nat → Prop) (p : Path) (w : World) (h : RefAt w r rf d S) (hz : RzAt w rf z) (hzo : zops z < 1099511627776) (hp : p.length ≤ maxLen) (hn : d.fs.length ≤ 4096) :
    Calls Tryz.prog 89 #[.pointer (some ⟨r, 0, none⟩), .string (bstr p)] w (RefOut r rf S w (deletes z d p)) := by
  obtain ⟨lv, es, h, hS1, hS2, hS3⟩ := h
  have x0 : Ext w (w.alloc (.cells #[.string (bstr p)] 9)) := (Ext.refl w).alloc (Nat.le_refl _) _
  have hst := Strs.one w p
  obtain ⟨w1, hw1⟩ : ∃ w1, w.alloc (.cells #[.string (bstr p)] 9) = w1 := ⟨_, rfl⟩
  have HW1 := Lib.hid hw1
  rw [hw1] at x0 hst
  have H := Lib.hid (And.intro (h.ext x0) (And.intro (hz.chg (Chg.of_ext x0 (fun _ => False)) (fun _ _ h => h)) (And.intro hst x0)))
  have HS := Lib.hid (And.intro hS1 (And.intro hS2 (And.intro hS3 (fun b hb => hz.lt b hb))))
  have hlen : es.length ≤ 4096 := by have h1 := h.fs; rw [h1] at hn; simpa [rfils, mapv_length] using hn
  have HP := Lib.hid hp
  clear h hz hS1 hS2 hS3 hst hw1 x0 hp
  go_enter Tryz.func89, Tryz.ntmps89
  go_wp2_with fail
  rw [HW1.out]
  refine (ask_any r rf z lv es d [p] _ _ H.out.1 H.out.2.1 hzo (by simp) (by simpa using HP.out) H.out.2.2.1).mono ?_; rintro e w2 ⟨rfl, hz2, h2, hg2, hsz2⟩
  have HG2 := Lib.hid ((Chg.of_ext H.out.2.2.2 (fun b => S b ∨ rf = some b)).trans (hg2.mono (T := fun b => S b ∨ rf = some b) fun b _ hb => by
    rcases hb with rfl | hb
    · exact .inl (HS.out.1 _ (.inl rfl))
    · exact .inr hb))
  have HGR := Lib.hid ((Chg.of_ext H.out.2.2.2 (fun b => b = r ∨ rf = some b)).trans hg2)
  have HZ2 := Lib.hid hz2
  have H2 := Lib.hid h2
  have HFS := Lib.hid (H.out.1.fs)
  clear hz2 h2 hg2 hsz2 HW1
  obtain ⟨n, hnn⟩ : ∃ n, (begins z d [p]).1 = n := ⟨_, rfl⟩
  rw [hnn]
  have HN := Lib.hid hnn
  clear hnn
  by_cases h0 : n = 0
  case neg =>
    have q1 : ((n : Int) != 0) = true := by simp; omega
    have HO := Lib.hid (show opens z d p [] = n by unfold opens; rw [HN.out, if_neg h0])
    have HNZ := Lib.hid h0
    clear h0
    go_wp2_with fail
    go_ret
    have HR := Lib.hid (show deletes z d p = (n, (begins z d [p]).2) by unfold deletes; rw [HO.out, if_neg HNZ.out])
    unfold RefOut
    rw [HR.out]
    exact ⟨rfl, HZ2.out, H2.out.refAt (fun b hb => .inl (HS.out.1 b hb)) HS.out.2.1 HS.out.2.2.1 HS.out.2.2.2 HG2.out.size, HG2.out⟩
  subst h0
  have q1 : (((0 : Nat) : Int) != 0) = false := rfl
  have hokp : okP p = true := by
    have h1 := HN.out
    unfold begins at h1
    by_cases c1 : (ticks z).1 = false
    · rw [if_pos c1] at h1; cases h1
    · rw [if_neg c1] at h1
      by_cases c2 : d.off = true
      · rw [if_pos c2] at h1; cases h1
      · rw [if_neg c2] at h1
        by_cases c3 : 0 < d.bad
        · rw [if_pos c3] at h1; cases h1
        · rw [if_neg c3] at h1
          by_cases c4 : [p].all okP = true
          · simpa using c4
          · rw [if_neg c4] at h1; cases h1
  have HOK := Lib.hid hokp
  clear hokp
  go_wp2_with fail
  refine (at_any r rf lv es _ p _ H2.out (by omega) (Nat.le_trans (by have := HOK.out; unfold okP at this; exact (of_decide_eq_true this).2) (by decide))).mono ?_; rintro e w3 ⟨rfl, x3⟩
  have H3 := Lib.hid (H2.out.ext x3)
  have HZ3 := Lib.hid (HZ2.out.chg (Chg.of_ext x3 (fun _ => False)) (fun _ _ h => h))
  have HG3 := Lib.hid (HG2.out.trans (Chg.of_ext x3 _))
  clear x3 H2 HZ2 HG2
  cases hx : get p es with
  | none =>
    have HO := Lib.hid (show opens z d p [] = 6 by unfold opens; rw [HN.out, if_pos rfl, HFS.out]; unfold rfils; rw [get_mapv, hx]; rfl)
    go_wp2_with fail
    go_ret
    have HR := Lib.hid (show deletes z d p = (6, (begins z d [p]).2) by unfold deletes; rw [HO.out, if_neg (by decide)])
    unfold RefOut
    rw [HR.out]
    exact ⟨rfl, HZ3.out, H3.out.refAt (fun b hb => .inl (HS.out.1 b hb)) HS.out.2.1 HS.out.2.2.1 HS.out.2.2.2 HG3.out.size, HG3.out⟩
  | some x =>
    have HO := Lib.hid (show opens z d p [] = 0 by unfold opens; rw [HN.out, if_pos rfl, HFS.out]; unfold rfils; rw [get_mapv, hx]; rfl)
    have HGX := Lib.hid (show get p d.fs = some x.f by rw [HFS.out]; unfold rfils; rw [get_mapv, hx]; rfl)
    obtain ⟨hpl, hpe⟩ := there_at H3.out.up hx
    have HX := Lib.hid (And.intro hx hpe)
    clear hx
    have hdel : es.take (pos p es) ++ es.drop (pos p es + 1) = del p es := by
      rw [(placed p H3.out.up).2.2]
      unfold Dk.one
      rw [HX.out.1]; rfl
    have HR := Lib.hid (show deletes z d p = (0, (begins z d [p]).2.1, { (begins z d [p]).2.2 with fs := del p d.fs }) by unfold deletes; rw [HO.out, if_pos rfl])
    have HD := Lib.hid (And.intro hdel (show rfils (del p es) = del p d.fs by rw [HFS.out]; exact (del_mapv _ _ _).symm))
    clear hpe hdel
    go_wp2_with fail
    refine (remove_any r rf lv es _ _ _ H3.out hpl (by omega)).mono ?_; rintro e w4 ⟨rfl, ⟨lv', h4, hf4⟩, hg4⟩
    rw [HD.out.1, HD.out.2] at h4
    have HZ4 := Lib.hid (HZ3.out.chg hg4 fun b hb e => HS.out.2.2.1 b hb (by rw [e]; exact HS.out.1 r (.inl rfl)))
    have HG4 := Lib.hid (HG3.out.trans (hg4.mono fun b _ hb => by rw [hb]; exact .inl (HS.out.1 r (.inl rfl))))
    have H4 := Lib.hid (h4.refAt (w := w) (S := S) (fun b hb => by
      rcases hb with hb | hb | ⟨e, he, hb⟩
      · exact .inl (HS.out.1 b (.inl hb))
      · exact .inr ⟨Nat.le_trans HG3.out.size (hf4 b hb), h4.lst.lt hb⟩
      · exact .inl (HS.out.1 b (.inr (.inr ⟨e, (mem_del.1 he).1, hb⟩)))) HS.out.2.1 HS.out.2.2.1 HS.out.2.2.2 HG4.out.size)
    clear h4 hf4 hg4
    go_wp2_with fail
    go_ret
    unfold RefOut
    rw [HR.out]
    exact ⟨rfl, HZ4.out, H4.out, HG4.out⟩
end Go.Proofs.YthkbbcdnmdjhdaaGreat
