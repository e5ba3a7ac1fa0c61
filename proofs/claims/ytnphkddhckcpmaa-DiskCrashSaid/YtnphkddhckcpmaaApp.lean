/-
  append, with what is known of the block that comes out: it is the old one or a new one. Sources: a slice, a string, so many noughts. No statement about the program.
-/
import Derived.Test.YtnphkddhckcpmaaMem
import Derived.Deep.AppendSrc
namespace Go.Proofs.Ytnphkddhckcpmaa
open Go.RowKit

theorem setCells_block (g : Nat) : ∀ (news : List Value) (off : Nat) (w : World) (e : TypeId) (cur : Array Value), Row w g e cur →
    ∃ cur', Row (w.setCells g off news) g e cur' ∧ cur'.size = cur.size ∧ ∀ j, cur'[j]? = if off ≤ j ∧ j < off + news.length ∧ j < cur.size then news[j - off]? else cur[j]?
  | [], off, w, e, cur, h => ⟨cur, h, rfl, fun j => by rw [if_neg (by simp; omega)]⟩
  | x :: l, off, w, e, cur, h => by
    obtain ⟨cur', h1, h2, h3⟩ := setCells_block g l (off + 1) (w.setCell ⟨g, off, none⟩ x) e (cur.setIfInBounds off x) (h.set off x)
    refine ⟨cur', h1, by simpa using h2, fun j => ?_⟩
    rw [h3 j, Array.getElem?_setIfInBounds]
    simp only [Array.size_setIfInBounds, List.length_cons]
    by_cases hj : off = j
    · subst hj
      rw [if_neg (by omega), if_pos rfl]
      by_cases hs : off < cur.size
      · rw [if_pos hs, if_pos ⟨by omega, by omega, hs⟩, Nat.sub_self]; rfl
      · rw [if_neg hs, if_neg (fun h => hs h.2.2), Array.getElem?_eq_none (by omega)]
    · rw [if_neg hj]
      by_cases c : off + 1 ≤ j ∧ j < off + 1 + l.length ∧ j < cur.size
      · rw [if_pos c, if_pos ⟨by omega, by omega, c.2.2⟩, show j - off = (j - (off + 1)) + 1 by omega, List.getElem?_cons_succ]
      · rw [if_neg c, if_neg (fun h => c ⟨by omega, by omega, h.2.2⟩)]
theorem setCells_other (g : Nat) : ∀ (news : List Value) (off : Nat) (w : World) (k : Nat), k ≠ g → (w.setCells g off news).heap[k]? = w.heap[k]?
  | [], _, _, _, _ => rfl
  | _ :: l, off, _, k, h => (setCells_other g l (off + 1) _ k h).trans (Below.heap_setCell _ _ _ _ h)
theorem setCells_size (g : Nat) : ∀ (news : List Value) (off : Nat) (w : World), (w.setCells g off news).heap.size = w.heap.size
  | [], _, _ => rfl
  | _ :: l, off, _ => (setCells_size g l (off + 1) _).trans (by simp)
theorem setCells_rest (g : Nat) : ∀ (news : List Value) (off : Nat) (w : World), (w.setCells g off news).os = w.os ∧ (w.setCells g off news).tape = w.tape ∧ (w.setCells g off news).output = w.output
  | [], _, _ => ⟨rfl, rfl, rfl⟩
  | x :: l, off, w => setCells_rest g l (off + 1) (w.setCell ⟨g, off, none⟩ x)

/-- What append gives: the block that comes out is the old one or a new one. -/
def AppOut (w : World) (B : Nat) (e : TypeId) (v : Value) (out : List Value) (v' : Value) (w' : World) : Prop :=
  Own w' B e v' out ∧ w.grownBy w' v.ownBlock ∧ (v'.ownBlock = v.ownBlock ∨ ∃ k, v'.ownBlock = some k ∧ w.heap.size ≤ k)

/-- The arm that has room. -/
theorem app_room {w : World} {B : Nat} {e : TypeId} {g cap : Nat} {cs news : List Value} (hown : Own w B e (.slice (some ⟨g, 0, none⟩) cs.length cap) cs) (hroom : cs.length + news.length ≤ cap) :
    AppOut w B e (.slice (some ⟨g, 0, none⟩) cs.length cap) (cs ++ news) (.slice (some ⟨g, 0, none⟩) (cs.length + news.length) cap) (w.setCells g cs.length news) := by
  rcases hown.forms with ⟨h, _⟩ | ⟨g', cap', cur, h, hb, hr, hl, hs, ht, hm⟩
  · cases h
  · simp only [Value.slice.injEq, Option.some.injEq, Addr.mk.injEq, and_true, true_and] at h
    obtain ⟨rfl, rfl⟩ := h
    obtain ⟨cur', h1, h2, h3⟩ := setCells_block g news cs.length w e cur hr
    have hlen : (cs ++ news).length = cs.length + news.length := by simp
    refine ⟨?_, ⟨(setCells_rest g news _ w).1, (setCells_rest g news _ w).2.1, (setCells_rest g news _ w).2.2, by rw [setCells_size]; exact Nat.le_refl _, fun k _ hk => setCells_other g news _ w k (fun h => hk (by rw [h]; rfl))⟩, .inl rfl⟩
    rw [← hlen]
    refine Own.mk hb h1 (by omega) (by omega) ?_ hm
    apply List.ext_getElem?
    intro j
    rw [List.getElem?_take]
    by_cases c : j < (cs ++ news).length
    · rw [if_pos c, Array.getElem?_toList, h3 j, List.getElem?_append]
      by_cases c2 : j < cs.length
      · rw [if_neg (by omega), if_pos c2, ← ht, List.getElem?_take, if_pos (by rw [ht] at *; omega), Array.getElem?_toList]
      · rw [if_pos ⟨by omega, by omega, by omega⟩, if_neg c2]
    · rw [if_neg c, List.getElem?_eq_none (by omega)]
/-- The arm that grows. -/
theorem app_grow {w : World} {B : Nat} {e : TypeId} {z v : Value} {cs news : List Value} (hz : z.cells = #[z]) (hB : B ≤ w.heap.size) (need old : Nat) (hneed : need = cs.length + news.length) (hm : need ≤ maxLen) :
    AppOut w B e v (cs ++ news) (.slice (some ⟨w.heap.size, 0, none⟩) need (grownCap w need old e)) (w.drew.alloc (.cells ((cs ++ news).toArray ++ Builtin.zeroCells z.cells (grownCap w need old e - need)) e)) := by
  have hge := grownCap_ge w need old e
  have hcm : grownCap w need old e ≤ maxLen := grownCap_le_maxLen w need old e hm
  have hlen : (cs ++ news).length = need := by simp [hneed]
  refine ⟨?_, ⟨rfl, rfl, rfl, by simp, fun k hk _ => Below.heap_alloc w.drew _ k hk⟩, .inr ⟨_, rfl, Nat.le_refl _⟩⟩
  rw [← hlen] at hge hcm ⊢
  refine Own.mk hB (Row.new w.drew e _) hge ?_ ?_ hcm
  · simp only [Array.size_append, List.size_toArray, size_zeroCells, hz]
    simp only [List.length_cons, List.length_nil, Nat.mul_one, Nat.zero_add]
    omega
  · rw [Array.toList_append, List.take_left' rfl]

theorem nextslicecap_le (need old : Nat) (h : old < need) : Builtin.nextslicecap need old ≤ 2 * need + 768 := by
  have grow : ∀ r c, c ≤ need → Builtin.growBy need r c ≤ 2 * need + 768 := by
    intro r
    induction r with
    | zero => intro c hc; simp only [Builtin.growBy]; omega
    | succ r ih =>
      intro c hc
      simp only [Builtin.growBy]
      split
      · omega
      · by_cases h2 : c + (c + 768) / 4 ≤ need
        · exact ih _ h2
        · cases r with
          | zero => simp only [Builtin.growBy]; omega
          | succ r => simp only [Builtin.growBy]; rw [if_pos (by omega)]; omega
  unfold Builtin.nextslicecap
  split
  · omega
  · split
    · omega
    · exact grow 4 old (by omega)

/-- append(v, x...), whatever is appended, v the call's own. -/
theorem run_appx {P : Program} (w : World) (t tx ty e : TypeId) (z : Value) (bytes : Nat) (ht : P.underlying t = some (.slice e))
    (hi : (P.info? e).map (fun i => (i.zero, i.size, i.bytes)) = some (some z, 1, bytes)) (hz : z.cells = #[z])
    {B : Nat} {v : Value} {cs : List Value} (hown : Own w B e v cs) {x : Value} {news : List Value} (hx : Src P 1 tx x news.length news w)
    (hm : cs.length + news.length ≤ maxLen) (hb : (2 * (cs.length + news.length) + 768) * bytes ≤ 281474976710656) (hB : B ≤ w.heap.size) :
    ∃ v' w', (Builtin.append_ #[t, tx] ty #[v, x]).run P w = .ok v' w' ∧ AppOut w B e v (cs ++ news) v' w' := by
  obtain ⟨i, hi, hzz, hs, hby⟩ := info_parts hi
  have hm' : ((cs.length + news.length : Nat) : Int) ≤ 9223372036854775807 := by simp only [maxLen] at hm; omega
  have hfit : ∀ old, old < cs.length + news.length → Builtin.nextslicecap (cs.length + news.length) old * i.bytes ≤ 281474976710656 := fun old ho => by
    rw [hby]; exact Nat.le_trans (Nat.mul_le_mul_right _ (nextslicecap_le _ _ ho)) hb
  rcases hown.forms with ⟨rfl, rfl⟩ | ⟨g, cap, cur, rfl, hbg, hr, hl, hcs, htk, hcap⟩
  · by_cases h0 : news.length = 0
    · have : news = [] := List.eq_nil_of_length_eq_zero h0
      subst this
      refine ⟨.slice none 0 0, w, ?_, Own.nil _ _ _, ⟨rfl, rfl, rfl, Nat.le_refl _, fun _ _ _ => rfl⟩, .inl rfl⟩
      have hc : (Builtin.firstCells 1 0 x).run P w = .ok #[] w := hx.cells
      have hlen : ∀ w', (Builtin.lenOf x).run P w' = .ok 0 w' := hx.len
      rcases hx.kind with ⟨e', hk⟩ | hk <;> simp [Builtin.append_, run_underlying ht, run_underlying hk, sizeOf, typeInfo, hi, hs, hlen, hc]
    · have hr := run_append_grow_src (P := P) w t tx ty e i z ht hi hzz none 0 0 [] (by simp [Builtin.firstCells]) x news.length news (by rw [hs]; exact hx) (by omega) (by simpa using hm') (by simpa using hfit 0 (by simp; omega))
      exact ⟨_, _, hr, app_grow (w := w) (cs := []) hz hB _ 0 (by simp) (by simpa using hm)⟩
  · by_cases hroom : cs.length + news.length ≤ cap
    · have hc : ∀ j, j < news.length → (w.cell? ⟨g, 0 + cs.length * i.size + j, none⟩).isSome = true := fun j hj => by
        rw [hr.cell (v := cur[0 + cs.length * i.size + j]'(by rw [hs]; omega)) (by rw [Array.getElem?_eq_getElem])]; rfl
      have hrun := run_append_room_src (P := P) w t tx ty e i ht hi g 0 cs.length cap x news.length news (by rw [hs]; exact hx) hroom hc (fun j _ => hr.unfrozen _)
      rw [hs, Nat.mul_one, Nat.zero_add] at hrun
      exact ⟨_, _, hrun, app_room hown hroom⟩
    · have hold : (Builtin.firstCells i.size cs.length (.slice (some ⟨g, 0, none⟩) cs.length cap)).run P w.drew = .ok cs.toArray w.drew := by
        refine run_firstCells_some (P := P) w.drew i.size cs.length ⟨g, 0, none⟩ cs.length cap cs (by rw [hs, Nat.mul_one]) fun j u hu => ?_
        rw [Addr.add_lit, Nat.zero_add]
        exact hown.parts.2.2.2.2.2.1 j u hu
      have hrun := run_append_grow_src (P := P) w t tx ty e i z ht hi hzz (some ⟨g, 0, none⟩) cs.length cap cs hold x news.length news (by rw [hs]; exact hx) (by omega) hm' (hfit cap (by omega))
      exact ⟨_, _, hrun, app_grow hz hB _ cap rfl hm⟩

theorem AppOut.trans {w w1 w2 : World} {B : Nat} {e : TypeId} {v v1 v2 : Value} {o1 o2 : List Value} (h : AppOut w B e v o1 v1 w1) (k : AppOut w1 B e v1 o2 v2 w2) : AppOut w B e v o2 v2 w2 := by
  obtain ⟨_, g1, b1⟩ := h
  obtain ⟨k1, g2, b2⟩ := k
  refine ⟨k1, ⟨g2.os.trans g1.os, g2.tape.trans g1.tape, g2.output.trans g1.output, Nat.le_trans g1.size g2.size, fun j hj hne => ?_⟩, ?_⟩
  · refine (g2.block j (Nat.lt_of_lt_of_le hj g1.size) ?_).trans (g1.block j hj hne)
    rcases b1 with b1 | ⟨q, b1, hq⟩
    · rw [b1]; exact hne
    · rw [b1]; intro h; injection h with h; omega
  · rcases b2 with b2 | ⟨q, b2, hq⟩
    · rw [b2]; exact b1
    · exact .inr ⟨q, b2, Nat.le_trans g1.size hq⟩

/-- append(v, make([]T, n)...): noughts. -/
theorem run_app_zeros {P : Program} (w : World) (t tx ty e : TypeId) (z : Value) (bytes : Nat) (ht : P.underlying t = some (.slice e)) (hx : P.underlying tx = some (.int .i64))
    (hi : (P.info? e).map (fun i => (i.zero, i.size, i.bytes)) = some (some z, 1, bytes)) (hz : z.cells = #[z]) (hz1 : z.oneCell' = true)
    {B : Nat} {v : Value} {cs : List Value} (hown : Own w B e v cs) (n : Nat)
    (hm : cs.length + n ≤ maxLen) (hb : (2 * (cs.length + n) + 768) * bytes ≤ 281474976710656) (hB : B ≤ w.heap.size) :
    ∃ v' w', (Builtin.append_ #[t, tx] ty #[v, .int .i64 (n : Int)]).run P w = .ok v' w' ∧ AppOut w B e v (cs ++ List.replicate n z) v' w' := by
  obtain ⟨i, hi, hzz, hs, hby⟩ := info_parts hi
  have hm' : ((cs.length + n : Nat) : Int) ≤ 9223372036854775807 := by simp only [maxLen] at hm; omega
  have hw : IntKind.i64.wrap (n : Int) = (n : Int) := by rw [IntKind.wrap_i64]; omega
  have h0 : ¬ ((n : Int) < 0) := by omega
  have hw0 : IntKind.i64.wrap 0 = 0 := by rw [IntKind.wrap_i64]; rfl
  have hb1 : ¬ ((281474976710656 : Int) < (n : Int) * (i.bytes : Int)) := by
    rw [hby]
    have : n * bytes ≤ 281474976710656 := Nat.le_trans (Nat.mul_le_mul_right _ (by omega)) hb
    have h2 : ((n * bytes : Nat) : Int) ≤ 281474976710656 := by omega
    rw [Int.natCast_mul] at h2; omega
  have hlen : (List.replicate n z).length = n := List.length_replicate
  have hzc : Builtin.zeroCells z.cells n = (List.replicate n z).toArray := by
    apply Array.ext'
    apply List.ext_getElem?
    intro j
    rw [hz]
    simp only [Builtin.zeroCells, List.size_toArray, List.length_cons, List.length_nil, Nat.zero_add, Nat.mul_one, Nat.mod_one]
    by_cases hj : j < n
    · simp [hj]
    · simp [hj]
  have hz1' : ∀ u ∈ List.replicate n z, u.oneCell' = true := fun u hu => by rw [List.eq_of_mem_replicate hu]; exact hz1
  have hfit : ∀ old, old < cs.length + n → Builtin.nextslicecap (cs.length + n) old * i.bytes ≤ 281474976710656 := fun old ho => by
    rw [hby]; exact Nat.le_trans (Nat.mul_le_mul_right _ (nextslicecap_le _ _ ho)) hb
  have grow : ∀ (base : Option Addr) (cap : Nat), cap < cs.length + n → (Builtin.firstCells 1 cs.length (.slice base cs.length cap)).run P w.drew = .ok cs.toArray w.drew →
      (Builtin.append_ #[t, tx] ty #[.slice base cs.length cap, .int .i64 (n : Int)]).run P w =
        .ok (.slice (some ⟨w.heap.size, 0, none⟩) (cs.length + n) (grownCap w (cs.length + n) cap e))
          (w.drew.alloc (.cells ((cs ++ List.replicate n z).toArray ++ Builtin.zeroCells z.cells (grownCap w (cs.length + n) cap e - (cs.length + n))) e)) := by
    intro base cap hg hold
    have hn : ¬ (cs.length + n ≤ cap) := by omega
    have h63' : ¬ (9223372036854775807 < ((cs.length : Int) + (n : Int))) := by omega
    have h48' : ¬ (281474976710656 < Builtin.nextslicecap (cs.length + n) cap * i.bytes) := by have := hfit cap hg; omega
    by_cases hn0 : n = 0
    · subst hn0
      simp only [Nat.add_zero] at hn h48' hg
      have h63 : ¬ (9223372036854775807 < (cs.length : Int)) := by omega
      simp [Builtin.append_, run_underlying ht, run_underlying hx, sizeOf, typeInfo, zeroValue, hi, hzz, hs, hw0, hn, h48', h63, Question.forced, hold, newRow, grownCap, asInt, asIntOf]
    · simp [Builtin.append_, run_underlying ht, run_underlying hx, sizeOf, typeInfo, zeroValue, hi, hzz, hs, hw, h0, hb1, hn, hn0, h48', h63', Question.forced, hold, hzc, newRow, grownCap, asInt, asIntOf]
      congr 2
      apply Array.ext'
      simp [List.append_assoc]
  rcases hown.forms with ⟨rfl, rfl⟩ | ⟨g, cap, cur, rfl, hbg, hr, hl, hcs, htk, hcap⟩
  · by_cases hn0 : n = 0
    · subst hn0
      refine ⟨.slice none 0 0, w, ?_, Own.nil _ _ _, ⟨rfl, rfl, rfl, Nat.le_refl _, fun _ _ _ => rfl⟩, .inl rfl⟩
      simp [Builtin.append_, run_underlying ht, run_underlying hx, sizeOf, typeInfo, hi, hw0, asInt, asIntOf]
    · have hr := grow none 0 (by simp; omega) (by simp [Builtin.firstCells])
      exact ⟨_, _, hr, app_grow (w := w) (cs := []) (news := List.replicate n z) hz hB _ 0 (by simp) (by simpa using hm)⟩
  · by_cases hroom : cs.length + n ≤ cap
    · have hc : ∀ j, j < (List.replicate n z).length → (w.cell? ⟨g, cs.length + j, none⟩).isSome = true := fun j hj => by
        rw [hlen] at hj
        rw [hr.cell (v := cur[cs.length + j]'(by omega)) (by rw [Array.getElem?_eq_getElem])]; rfl
      have hst := run_storeCells_cells (P := P) g cs.length (List.replicate n z) 0 w (by simpa using hc) (by intro j _; simpa using hr.unfrozen _) hz1'
      simp only [Nat.add_zero] at hst
      have hout := app_room (news := List.replicate n z) hown (by rw [hlen]; exact hroom)
      rw [hlen] at hout
      refine ⟨_, _, ?_, hout⟩
      by_cases hn0 : n = 0
      · subst hn0
        simp only [Nat.add_zero] at hroom
        simp [Builtin.append_, run_underlying ht, run_underlying hx, sizeOf, typeInfo, hi, hs, hw0, hroom, asInt, asIntOf]
        rfl
      · simp [Builtin.append_, run_underlying ht, run_underlying hx, sizeOf, typeInfo, zeroValue, hi, hzz, hs, hw, h0, hb1, hn0, hroom, hzc, Addr.add_lit, hst, asInt, asIntOf]
    · have hold : (Builtin.firstCells 1 cs.length (.slice (some ⟨g, 0, none⟩) cs.length cap)).run P w.drew = .ok cs.toArray w.drew := by
        refine run_firstCells_some (P := P) w.drew 1 cs.length ⟨g, 0, none⟩ cs.length cap cs (by rw [Nat.mul_one]) fun j u hu => ?_
        rw [Addr.add_lit, Nat.zero_add]
        exact hown.parts.2.2.2.2.2.1 j u hu
      exact ⟨_, _, grow _ cap (by omega) hold, app_grow hz hB _ cap (by simp) hm⟩

theorem Cells.src {P : Program} {w : World} {x : Value} {news : List Value} {tx e' : TypeId} (hk : P.underlying tx = some (.slice e')) (h : Cells w x news) (h1 : ∀ u ∈ news, u.oneCell' = true) : Src P 1 tx x news.length news w := by
  obtain ⟨a, cap, rfl, hl, hn, hc⟩ := h
  cases a with
  | none =>
    obtain rfl := hn rfl
    have : news = [] := by
      cases news with
      | nil => rfl
      | cons u l => obtain ⟨ad, h, _⟩ := hc 0 u rfl; cases h
    subst this
    exact Src.ofNil w hk 0
  | some ad =>
    exact Src.ofSlice w hk ad news.length cap news (by simp) (fun j u hu => by obtain ⟨ad', e1, e2⟩ := hc j u hu; obtain rfl := Option.some.inj e1; exact e2) h1

theorem Own.slice {w : World} {B : Nat} {e : TypeId} {v : Value} {cs : List Value} (h : Own w B e v cs) : ∃ a c, v = .slice a cs.length c := by
  rcases h.forms with ⟨rfl, rfl⟩ | ⟨g, cap, cur, rfl, _⟩
  · exact ⟨_, _, rfl⟩
  · exact ⟨_, _, rfl⟩
section
variable {P : Program} {w : World} {ops : Array Oper} {rest : List Oper} {o : Oper} {a : Act} {Q : Exit → Act → World → Prop} {K : Act → World → Prop} {E : Prop}
theorem wp_appx (s x : Operand) (t tx e : TypeId) (z : Value) (bytes : Nat) (ho : o.op = .call { callee := .builtin .append, args := #[s, x], argTypes := #[t, tx] }) (ht : P.underlying t = some (.slice e))
    (hi : (P.info? e).map (fun i => (i.zero, i.size, i.bytes)) = some (some z, 1, bytes)) (hz : z.cells = #[z])
    {B : Nat} {v : Value} {cs : List Value} (hs : a.eval s = v) (hown : Own w B e v cs) {xv : Value} {news : List Value} (hxv : a.eval x = xv) (hx : Src P 1 tx xv news.length news w)
    (hm : cs.length + news.length ≤ maxLen) (hb : (2 * (cs.length + news.length) + 768) * bytes ≤ 281474976710656) (hB : B ≤ w.heap.size)
    (N : Nat) (hN : N = cs.length + news.length) (hK : ∀ ad c w', AppOut w B e v (cs ++ news) (.slice ad N c) w' → K (a.put o.dst (.slice ad N c)) w') : Oper.wp P o a w K Q := by
  obtain ⟨v', w', h2, h3⟩ := run_appx (P := P) w t tx o.type e z bytes ht hi hz hown hx hm hb hB
  unfold Oper.wp execOp
  simp only [ho, resolve, invoke, builtin, Sem.run_bind, Sem.run_pure, Result.andThen_ok, List.map_toArray, List.map_cons, List.map_nil, hs, hxv, h2]
  obtain ⟨ad, c, rfl⟩ := h3.1.slice
  rw [List.length_append, ← hN] at h3 ⊢
  exact hK ad c w' h3
theorem wp_appz (s x : Operand) (t tx e : TypeId) (z : Value) (bytes : Nat) (ho : o.op = .call { callee := .builtin .append, args := #[s, x], argTypes := #[t, tx] }) (ht : P.underlying t = some (.slice e)) (htx : P.underlying tx = some (.int .i64))
    (hi : (P.info? e).map (fun i => (i.zero, i.size, i.bytes)) = some (some z, 1, bytes)) (hz : z.cells = #[z]) (hz1 : z.oneCell' = true)
    {B : Nat} {v : Value} {cs : List Value} (hs : a.eval s = v) (hown : Own w B e v cs) (n : Nat) (hxv : a.eval x = .int .i64 (n : Int))
    (hm : cs.length + n ≤ maxLen) (hb : (2 * (cs.length + n) + 768) * bytes ≤ 281474976710656) (hB : B ≤ w.heap.size)
    (N : Nat) (hN : N = cs.length + n) (hK : ∀ ad c w', AppOut w B e v (cs ++ List.replicate n z) (.slice ad N c) w' → K (a.put o.dst (.slice ad N c)) w') : Oper.wp P o a w K Q := by
  obtain ⟨v', w', h2, h3⟩ := run_app_zeros (P := P) w t tx o.type e z bytes ht htx hi hz hz1 hown n hm hb hB
  unfold Oper.wp execOp
  simp only [ho, resolve, invoke, builtin, Sem.run_bind, Sem.run_pure, Result.andThen_ok, List.map_toArray, List.map_cons, List.map_nil, hs, hxv, h2]
  obtain ⟨ad, c, rfl⟩ := h3.1.slice
  rw [List.length_append, List.length_replicate, ← hN] at h3 ⊢
  exact hK ad c w' h3
theorem step_of_wp (hg : o.guard = none) (h : Oper.wp P o a w K Q) : if Region.wanted o (yielded ops a.tmps) = true then Oper.wp P o a w K Q else E := by
  have hw : Region.wanted o (yielded ops a.tmps) = true := by simp [Region.wanted, hg]
  rw [if_pos hw]; exact h
theorem list_of_wp (hg : o.guard = none) (h : ∀ K : Act → World → Prop, (∀ a w, wpList P ops Q rest a w → K a w) → Oper.wp P o a w K Q) : wpList P ops Q (o :: rest) a w := wpList_plain hg h
end
end Go.Proofs.Ytnphkddhckcpmaa
