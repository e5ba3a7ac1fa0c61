/-
  Memory for the walks: a slice that reads as a list of cells (Cells, Bytes), a slice that the call owns (Own), append onto it, make. No statement about the program.
-/
import Derived.Test.YtnphkddhckcpmaaCore
namespace Go.Proofs.Ytnphkddhckcpmaa
open Go.RowKit

/-- The slice value v reads, in w, as these cells. -/
def Cells (w : World) (v : Value) (cs : List Value) : Prop :=
  ∃ a cap, v = .slice a cs.length cap ∧ cs.length ≤ cap ∧ (a = none → cap = 0) ∧ ∀ j u, cs[j]? = some u → ∃ ad : Addr, a = some ad ∧ w.cell? (ad.add j) = some u
theorem Cells.nil (w : World) : Cells w (.slice none 0 0) [] := ⟨none, 0, rfl, Nat.le_refl _, fun _ => rfl, by simp⟩
theorem Cells.ext {w w' : World} {v : Value} {cs : List Value} (h : Cells w v cs) (hx : Ext w w') : Cells w' v cs := by
  obtain ⟨a, cap, e, hl, hn, hc⟩ := h
  exact ⟨a, cap, e, hl, hn, fun j u hu => let ⟨ad, h1, h2⟩ := hc j u hu; ⟨ad, h1, hx.cell h2⟩⟩
theorem addr_plain {w : World} {ad : Addr} {u : Value} (h : w.cell? ad = some u) : ad = ⟨ad.block, ad.off, none⟩ := by
  obtain ⟨b, o, s⟩ := ad
  cases s with
  | none => rfl
  | some x =>
    unfold World.cell? at h
    split at h <;> simp at h
/-- Nil or empty, or an address. -/
theorem Cells.forms {w : World} {v : Value} {cs : List Value} (h : Cells w v cs) :
    (cs = [] ∧ ∃ a cap, v = .slice a 0 cap) ∨ (cs ≠ [] ∧ ∃ b o cap, v = .slice (some ⟨b, o, none⟩) cs.length cap ∧ cs.length ≤ cap ∧ ∀ j u, cs[j]? = some u → w.cell? ⟨b, o + j, none⟩ = some u) := by
  obtain ⟨a, cap, e, hl, hn, hc⟩ := h
  by_cases h0 : cs = []
  · subst h0; exact .inl ⟨rfl, a, cap, e⟩
  · refine .inr ⟨h0, ?_⟩
    obtain ⟨u, hu⟩ : ∃ u, cs[0]? = some u := by
      cases cs with
      | nil => exact absurd rfl h0
      | cons x l => exact ⟨x, rfl⟩
    obtain ⟨ad, rfl, h2⟩ := hc 0 u hu
    have hp := addr_plain h2
    have hz : ad.add 0 = ad := by simp [Addr.add]
    rw [hz] at hp
    refine ⟨ad.block, ad.off, cap, by rw [e]; exact congrArg (fun x => Value.slice (some x) cs.length cap) hp, hl, fun j u hu => ?_⟩
    obtain ⟨ad', h1, h3⟩ := hc j u hu
    obtain rfl := Option.some.inj h1
    rw [← Addr.add_lit, ← hp]; exact h3

/-- Where there is a cell there is an address. -/
theorem Cells.at {w : World} {a : Option Addr} {n cap : Nat} {cs : List Value} (h : Cells w (.slice a n cap) cs) {j : Nat} {u : Value} (hu : cs[j]? = some u) :
    ∃ b o, a = some ⟨b, o, none⟩ ∧ w.cell? ⟨b, o + j, none⟩ = some u := by
  rcases h.forms with ⟨rfl, _⟩ | ⟨_, b, o, cap', e, _, hc⟩
  · simp at hu
  · simp only [Value.slice.injEq] at e
    exact ⟨b, o, e.1, hc j u hu⟩

/-- A byte as a value. -/
abbrev bv (x : UInt8) : Value := .int .u8 (x.toNat : Int)
abbrev bvs (l : List UInt8) : List Value := l.map bv
abbrev Bytes (w : World) (v : Value) (l : List UInt8) : Prop := Cells w v (bvs l)
theorem bvs_get {l : List UInt8} {j : Nat} (h : j < l.length) : (bvs l)[j]? = some (bv l[j]) := by simp [h]
theorem bvs_one (l : List UInt8) : ∀ u ∈ bvs l, u.oneCell' = true := by
  intro u hu
  obtain ⟨_, _, rfl⟩ := List.mem_map.1 hu
  rfl
theorem bvs_len (l : List UInt8) : (bvs l).length = l.length := List.length_map _
theorem bvs_append (l k : List UInt8) : bvs (l ++ k) = bvs l ++ bvs k := List.map_append
theorem bvs_inj {l k : List UInt8} (h : bvs l = bvs k) : l = k := by
  refine List.map_inj_right ?_ |>.1 h
  intro x y hxy
  have hi : ((x.toNat : Nat) : Int) = ((y.toNat : Nat) : Int) := by injection hxy
  exact UInt8.toNat_inj.1 (by omega)

/-- The slice value v is nil and empty, or owns from its head on a row in a block from B on that begins with these cells. -/
abbrev Own (w : World) (B : Nat) (e : TypeId) (v : Value) (cs : List Value) : Prop := w.ownsRow B e 1 v cs.length cs
theorem Own.forms {w : World} {B : Nat} {e : TypeId} {v : Value} {cs : List Value} (h : Own w B e v cs) :
    (v = .slice none 0 0 ∧ cs = []) ∨ ∃ g cap cur, v = .slice (some ⟨g, 0, none⟩) cs.length cap ∧ B ≤ g ∧ Row w g e cur ∧ cs.length ≤ cap ∧ cur.size = cap ∧ cur.toList.take cs.length = cs ∧ cap ≤ maxLen := by
  rcases h.2 with ⟨h1, h2⟩ | ⟨g, cap, cur, h1, h2, h3, h4, h5, h6, h7⟩
  · exact .inl ⟨h1, List.eq_nil_of_length_eq_zero h2⟩
  · exact .inr ⟨g, cap, cur, h1, h2, h3, h4, by omega, by rwa [Nat.mul_one] at h7, h5⟩
theorem Own.mk {w : World} {B g cap : Nat} {e : TypeId} {cs : List Value} {cur : Array Value} (h2 : B ≤ g) (h3 : Row w g e cur) (h4 : cs.length ≤ cap) (h6 : cur.size = cap) (h7 : cur.toList.take cs.length = cs) (h5 : cap ≤ maxLen) :
    Own w B e (.slice (some ⟨g, 0, none⟩) cs.length cap) cs :=
  ⟨by omega, .inr ⟨g, cap, cur, rfl, h2, h3, h4, h5, by omega, by rwa [Nat.mul_one]⟩⟩
theorem Own.cells {w : World} {B : Nat} {e : TypeId} {v : Value} {cs : List Value} (h : Own w B e v cs) : Cells w v cs := by
  rcases h.forms with ⟨rfl, rfl⟩ | ⟨g, cap, cur, rfl, _, hr, hl, hs, ht, _⟩
  · exact Cells.nil w
  · refine ⟨_, _, rfl, hl, (fun h => by cases h), fun j u hu => ⟨_, rfl, ?_⟩⟩
    rw [Addr.add_lit, Nat.zero_add]
    refine hr.cell ?_
    rw [← ht, List.getElem?_take] at hu
    split at hu
    · simpa using hu
    · cases hu
theorem Own.ext {w w' : World} {B : Nat} {e : TypeId} {v : Value} {cs : List Value} (h : Own w B e v cs) (hx : Ext w w') : Own w' B e v cs := by
  rcases h.forms with ⟨rfl, rfl⟩ | ⟨g, cap, cur, rfl, h2, hr, hl, hs, ht, h5⟩
  · exact World.ownsRow_nil _ _ _ _
  · exact Own.mk h2 (hr.ext hx) hl hs ht h5
theorem Own.mono {w : World} {B B' : Nat} {e : TypeId} {v : Value} {cs : List Value} (h : Own w B e v cs) (hB : B' ≤ B) : Own w B' e v cs := by
  rcases h.forms with ⟨rfl, rfl⟩ | ⟨g, cap, cur, rfl, h2, hr, hl, hs, ht, h5⟩
  · exact World.ownsRow_nil _ _ _ _
  · exact Own.mk (by omega) hr hl hs ht h5
theorem Own.nil (w : World) (B : Nat) (e : TypeId) : Own w B e (.slice none 0 0) [] := World.ownsRow_nil _ _ _ _
/-- One cell written. -/
theorem Own.set {w : World} {B g n cap : Nat} {e : TypeId} {cs : List Value} (h : Own w B e (.slice (some ⟨g, 0, none⟩) n cap) cs) (i : Nat) (u : Value) :
    Own (w.setCell ⟨g, i, none⟩ u) B e (.slice (some ⟨g, 0, none⟩) n cap) (cs.set i u) := by
  rcases h.forms with ⟨h1, rfl⟩ | ⟨g', cap', cur, h1, h2, hr, hl, hs, ht, h5⟩
  · cases h1
  · simp only [Value.slice.injEq, Option.some.injEq, Addr.mk.injEq, and_true] at h1
    obtain ⟨rfl, rfl, rfl⟩ := h1
    have := Own.mk (cs := cs.set i u) h2 (hr.set i u) (by simpa using hl) (by simpa using hs) ?_ h5
    · simpa using this
    · simp only [Array.toList_setIfInBounds, List.length_set]
      rw [List.take_set, ht]
theorem Own.parts {w : World} {B g n cap : Nat} {e : TypeId} {cs : List Value} (h : Own w B e (.slice (some ⟨g, 0, none⟩) n cap) cs) :
    n = cs.length ∧ B ≤ g ∧ g < w.heap.size ∧ cs.length ≤ cap ∧ cap ≤ maxLen ∧ (∀ i u, cs[i]? = some u → w.cell? ⟨g, i, none⟩ = some u) ∧ ∀ i, w.frozen? ⟨g, i, none⟩ = false := by
  have hc := h.cells
  rcases h.forms with ⟨h1, rfl⟩ | ⟨g', cap', cur, h1, h2, hr, hl, hs, ht, h5⟩
  · cases h1
  · simp only [Value.slice.injEq, Option.some.injEq, Addr.mk.injEq, and_true] at h1
    obtain ⟨rfl, rfl, rfl⟩ := h1
    refine ⟨rfl, h2, hr.lt, hl, h5, fun i u hu => ?_, fun i => hr.unfrozen i⟩
    obtain ⟨a, cap, e1, _, _, h3⟩ := hc
    simp only [Value.slice.injEq] at e1
    obtain ⟨rfl, -, -⟩ := e1
    obtain ⟨ad, h4, h6⟩ := h3 i u hu
    obtain rfl := Option.some.inj h4
    rwa [Addr.add_lit, Nat.zero_add] at h6
theorem Own.new (w : World) (B : Nat) (e : TypeId) (cs : Array Value) (hB : B ≤ w.heap.size) (hm : cs.size ≤ maxLen) :
    Own (w.alloc (.cells cs e)) B e (.slice (some ⟨w.heap.size, 0, none⟩) cs.size cs.size) cs.toList := by
  have := Own.mk (w := w.alloc (.cells cs e)) (B := B) (cs := cs.toList) (cap := cs.size) hB (Row.new w e cs) (by simp) rfl (by rw [List.take_of_length_le (Nat.le_refl _)]) hm
  simpa using this
theorem Ext.grown {w w' : World} {row : Option Nat} (h : w.grownBy w' row) (hr : ∀ k, row = some k → w.heap.size ≤ k) : Ext w w' :=
  (Below.refl _ w).grown h (Nat.le_refl _) hr
theorem Below.grown' {B : Nat} {a w w' : World} {row : Option Nat} (h : Below B a w) (hg : w.grownBy w' row) (hB : B ≤ w.heap.size) (hr : ∀ k, row = some k → B ≤ k) : Below B a w' := h.grown hg hB hr
theorem Own.block {w : World} {B : Nat} {e : TypeId} {v : Value} {cs : List Value} (h : Own w B e v cs) : ∀ k, v.ownBlock = some k → B ≤ k := fun k hk => (World.ownsRow.lt h k hk).1

/-- append(v, xs...), v the call's own. -/
theorem run_app {P : Program} (w : World) (t ty e : TypeId) (z : Value) (bytes : Nat) (ht : P.underlying t = some (.slice e))
    (hi : (P.info? e).map (fun i => (i.zero, i.size, i.bytes)) = some (some z, 1, bytes)) (hz : z.cells = #[z])
    {B : Nat} {v : Value} {cs : List Value} (hown : Own w B e v cs) {x : Value} {news : List Value} (hx : Cells w x news) (h1 : ∀ u ∈ news, u.oneCell' = true)
    (hm : cs.length + news.length ≤ maxLen) (hb : (cs.length + news.length) * bytes ≤ 140737488355328) (hB : B ≤ w.heap.size) :
    ∃ v' w', (Builtin.append_ #[t, t] ty #[v, x]).run P w = .ok v' w' ∧ Own w' B e v' (cs ++ news) ∧ w.grownBy w' v.ownBlock ∧ (v' = .slice none 0 0 ↔ v = .slice none 0 0 ∧ news = []) := by
  obtain ⟨i, hi, hzz, hs, hby⟩ := info_parts hi
  obtain ⟨a, cap, rfl, hl, hnone, hc⟩ := hx
  have hlen : cs.length + news.length = (cs ++ news).length := by simp
  cases a with
  | none =>
    obtain rfl := hnone rfl
    have : news = [] := by
      cases news with
      | nil => rfl
      | cons u l => obtain ⟨ad, h, _⟩ := hc 0 u rfl; cases h
    subst this
    have hr := run_append_owned_none (P := P) (w := w) B t ty e i 1 ht hi v cs.length cs hown
    exact ⟨v, w, hr, by simpa using hown, ⟨rfl, rfl, rfl, Nat.le_refl _, fun _ _ _ => rfl⟩, by simp⟩
  | some ad =>
    obtain ⟨v', w', h2, h3, h4, h5⟩ := run_append_own (P := P) w B t ty e i z 1 bytes ht hi hzz hs hby (by rw [hz]; rfl) (by decide) v cs.length cs hown ad news.length cap news (by simp)
      (fun j u hu => by obtain ⟨ad', e1, e2⟩ := hc j u hu; obtain rfl := Option.some.inj e1; exact e2) h1 hm hb hB
    refine ⟨v', w', h2, by rw [hlen] at h3; exact h3, h4, ?_⟩
    rw [h5]; simp
theorem wpList_app {P : Program} {w : World} {ops : Array Oper} {rest : List Oper} {o : Oper} {a : Act} {Q : Exit → Act → World → Prop} (hg : o.guard = none) (s x : Operand)
    (t e : TypeId) (z : Value) (bytes : Nat) (ho : o.op = .call { callee := .builtin .append, args := #[s, x], argTypes := #[t, t] }) (ht : P.underlying t = some (.slice e))
    (hi : (P.info? e).map (fun i => (i.zero, i.size, i.bytes)) = some (some z, 1, bytes)) (hz : z.cells = #[z])
    {B : Nat} {v : Value} {cs : List Value} (hs : a.eval s = v) (hown : Own w B e v cs) {xv : Value} {news : List Value} (hxv : a.eval x = xv) (hx : Cells w xv news) (h1 : ∀ u ∈ news, u.oneCell' = true)
    (hm : cs.length + news.length ≤ maxLen) (hb : (cs.length + news.length) * bytes ≤ 140737488355328) (hB : B ≤ w.heap.size)
    (hK : ∀ v' w', Own w' B e v' (cs ++ news) → w.grownBy w' v.ownBlock → (v' = .slice none 0 0 ↔ v = .slice none 0 0 ∧ news = []) → wpList P ops Q rest (a.put o.dst v') w') : wpList P ops Q (o :: rest) a w := by
  obtain ⟨v', w', h2, h3, h4, h5⟩ := run_app (P := P) w t o.type e z bytes ht hi hz hown hx h1 hm hb hB
  refine wpList_plain hg fun K hK' => ?_
  unfold Oper.wp execOp
  simp only [ho, resolve, invoke, builtin, Sem.run_bind, Sem.run_pure, Result.andThen_ok, List.map_toArray, List.map_cons, List.map_nil, hs, hxv, h2]
  exact hK' _ _ (hK v' w' h3 h4 h5)

/-- append(v, xs...) where something comes out: the value written out, its length and its cells as the walk wants them spelt. -/
theorem wpList_app_some {P : Program} {w : World} {ops : Array Oper} {rest : List Oper} {o : Oper} {a : Act} {Q : Exit → Act → World → Prop} (hg : o.guard = none) (s x : Operand)
    (t e : TypeId) (z : Value) (bytes : Nat) (ho : o.op = .call { callee := .builtin .append, args := #[s, x], argTypes := #[t, t] }) (ht : P.underlying t = some (.slice e))
    (hi : (P.info? e).map (fun i => (i.zero, i.size, i.bytes)) = some (some z, 1, bytes)) (hz : z.cells = #[z])
    {B : Nat} {v : Value} {cs : List Value} (hs : a.eval s = v) (hown : Own w B e v cs) {xv : Value} {news : List Value} (hxv : a.eval x = xv) (hx : Cells w xv news) (h1 : ∀ u ∈ news, u.oneCell' = true)
    (hm : cs.length + news.length ≤ maxLen) (hb : (cs.length + news.length) * bytes ≤ 140737488355328) (hB : B ≤ w.heap.size)
    (N : Nat) (hN : N = cs.length + news.length) (out : List Value) (hout : out = cs ++ news) (hpos : 0 < N)
    (hK : ∀ g cap w', Own w' B e (.slice (some ⟨g, 0, none⟩) N cap) out → w.grownBy w' v.ownBlock → wpList P ops Q rest (a.put o.dst (.slice (some ⟨g, 0, none⟩) N cap)) w') : wpList P ops Q (o :: rest) a w := by
  refine wpList_app hg s x t e z bytes ho ht hi hz hs hown hxv hx h1 hm hb hB fun v' w' h2 h3 _ => ?_
  subst hout hN
  rcases h2.forms with ⟨_, h5⟩ | ⟨g, cap, cur, e1, h⟩
  · have : (cs ++ news).length = 0 := by rw [h5]; rfl
    rw [List.length_append] at this; omega
  · rw [List.length_append] at e1
    rw [e1] at h2 ⊢
    exact hK g cap w' h2 h3
theorem wpList_app_none {P : Program} {w : World} {ops : Array Oper} {rest : List Oper} {o : Oper} {a : Act} {Q : Exit → Act → World → Prop} (hg : o.guard = none) (s x : Operand)
    (t e : TypeId) (z : Value) (bytes : Nat) (ho : o.op = .call { callee := .builtin .append, args := #[s, x], argTypes := #[t, t] }) (ht : P.underlying t = some (.slice e))
    (hi : (P.info? e).map (fun i => (i.zero, i.size, i.bytes)) = some (some z, 1, bytes)) (hz : z.cells = #[z])
    (hs : a.eval s = .slice none 0 0) {xv : Value} (hxv : a.eval x = xv) (hx : Cells w xv [])
    (hK : ∀ w', w.grownBy w' none → wpList P ops Q rest (a.put o.dst (.slice none 0 0)) w') : wpList P ops Q (o :: rest) a w := by
  refine wpList_app hg s x t e z bytes ho ht hi hz hs (Own.nil w 0 e) hxv hx (by simp) (by simp [maxLen]) (by simp) (Nat.zero_le _) fun v' w' _ h3 h4 => ?_
  obtain rfl := h4.2 ⟨rfl, rfl⟩
  exact hK w' h3

/-! ### what comes in -/
theorem u8_of_wf {a : Int} (h : (Lit.int .u8 a).wf = true) : ∃ x : UInt8, a = (x.toNat : Int) := by
  have hb : 0 ≤ a ∧ a ≤ 255 := by
    simp [Lit.wf] at h
    constructor
    · exact h.1
    · have := h.2
      simpa [IntKind.max, IntKind.signed, IntKind.bits] using this
  refine ⟨UInt8.ofNat a.toNat, ?_⟩
  rw [UInt8.toNat_ofNat']
  omega
theorem bytes_of_row {w : World} {a : Option Addr} {len cap : Nat} {zs : List Int}
    (h : (a = none ∧ len = 0 ∧ cap = 0 ∧ zs = []) ∨ ∃ x, a = some x ∧ len ≤ cap ∧ cap ≤ maxLen ∧ zs.length = cap ∧ (∀ i, i < zs.length → w.cell? (x.add i) = some (.int .u8 (zs.getD i 0))) ∧ ∀ n ∈ zs, (Lit.int .u8 n).wf = true) :
    ∃ l : List UInt8, l.length = len ∧ Bytes w (.slice a len cap) l := by
  rcases h with ⟨rfl, rfl, rfl, rfl⟩ | ⟨x, rfl, h1, _, h3, h4, h5⟩
  · exact ⟨[], rfl, Cells.nil w⟩
  · have hl : ((zs.take len).map fun z => UInt8.ofNat z.toNat).length = len := by rw [List.length_map, List.length_take]; omega
    refine ⟨(zs.take len).map fun z => UInt8.ofNat z.toNat, hl, some x, cap, by rw [bvs_len, hl], by rw [bvs_len, hl]; exact h1, (fun h => by cases h), fun j u hu => ⟨x, rfl, ?_⟩⟩
    have hj : j < len := by
      have := (List.getElem?_eq_some_iff.1 hu).1
      rwa [bvs_len, hl] at this
    rw [h4 j (by omega)]
    have e : (zs.getD j 0) = zs[j]'(by omega) := by rw [List.getD_eq_getElem?_getD, List.getElem?_eq_getElem (by omega : j < zs.length)]; rfl
    obtain ⟨y, hy⟩ := u8_of_wf (h5 _ (List.getElem_mem (by omega : j < zs.length)))
    rw [List.getElem?_map, List.getElem?_map, List.getElem?_take_of_lt hj, List.getElem?_eq_getElem (by omega : j < zs.length)] at hu
    simp only [Option.map_some, Option.some.injEq] at hu
    rw [← hu, e, hy]
    simp
end Go.Proofs.Ytnphkddhckcpmaa
