/-
  append onto rows whose elements have k cells; the block that comes out is the old one or a new one. No statement about the program.
-/
import Derived.Test.YtnphkddhckcpmaaSep
import Derived.Deep.AppendSrc
namespace Go.Proofs.Ytnphkddhckcpmaa
open Go.RowKit

/-- A row of n elements of k cells each. -/
abbrev OwnK (w : World) (B : Nat) (e : TypeId) (k : Nat) (v : Value) (n : Nat) (xs : List Value) : Prop := w.ownsRow B e k v n xs
section
variable {w w' : World} {B n k : Nat} {e : TypeId} {v : Value} {xs : List Value}
theorem OwnK.forms (h : OwnK w B e k v n xs) : xs.length = n * k ∧ ((v = .slice none 0 0 ∧ n = 0 ∧ xs = []) ∨ ∃ g cap cur, v = .slice (some ⟨g, 0, none⟩) n cap ∧ B ≤ g ∧ Row w g e cur ∧ n ≤ cap ∧ cur.size = cap * k ∧ cur.toList.take (n * k) = xs ∧ cap ≤ maxLen) := by
  obtain ⟨h0, h⟩ := h
  refine ⟨h0, ?_⟩
  rcases h with ⟨h1, h2⟩ | ⟨g, cap, cur, h1, h2, h3, h4, h5, h6, h7⟩
  · exact .inl ⟨h1, h2, List.eq_nil_of_length_eq_zero (by rw [h0, h2]; omega)⟩
  · exact .inr ⟨g, cap, cur, h1, h2, h3, h4, h6, h7, h5⟩
theorem OwnK.mk {g cap : Nat} {cur : Array Value} (h0 : xs.length = n * k) (h2 : B ≤ g) (h3 : Row w g e cur) (h4 : n ≤ cap) (h6 : cur.size = cap * k) (h7 : cur.toList.take (n * k) = xs) (h5 : cap ≤ maxLen) : OwnK w B e k (.slice (some ⟨g, 0, none⟩) n cap) n xs :=
  ⟨h0, .inr ⟨g, cap, cur, rfl, h2, h3, h4, h5, h6, h7⟩⟩
theorem OwnK.nil (w : World) (B : Nat) (e : TypeId) (k : Nat) : OwnK w B e k (.slice none 0 0) 0 [] := ⟨by simp, .inl ⟨rfl, rfl⟩⟩
theorem OwnK.slice (h : OwnK w B e k v n xs) : ∃ a c, v = .slice a n c := by
  rcases h.forms with ⟨-, ⟨rfl, rfl, -⟩ | ⟨g, cap, cur, rfl, -⟩⟩
  · exact ⟨_, _, rfl⟩
  · exact ⟨_, _, rfl⟩
theorem OwnK.block (h : OwnK w B e k v n xs) (b : Nat) (hb : v.ownBlock = some b) : B ≤ b := by
  rcases h.forms with ⟨-, ⟨rfl, -⟩ | ⟨g, cap, cur, rfl, h2, -⟩⟩
  · cases hb
  · cases hb; exact h2
theorem OwnK.row (h : OwnK w B e k v n xs) {b : Nat} (hb : v.ownBlock = some b) : ∃ cur, Row w b e cur := by
  rcases h.forms with ⟨-, ⟨rfl, -⟩ | ⟨g, cap, cur, rfl, h2, hr, -⟩⟩
  · cases hb
  · cases hb; exact ⟨cur, hr⟩
theorem OwnK.lt (h : OwnK w B e k v n xs) {b : Nat} (hb : v.ownBlock = some b) : b < w.heap.size := by obtain ⟨_, hr⟩ := h.row hb; exact hr.lt
theorem OwnK.mono {B' : Nat} (h : OwnK w B e k v n xs) (hB : B' ≤ B) : OwnK w B' e k v n xs := by
  rcases h.forms with ⟨h0, ⟨rfl, rfl, rfl⟩ | ⟨g, cap, cur, rfl, h2, h3, h4, h5, h6, h7⟩⟩
  · exact OwnK.nil _ _ _ _
  · exact OwnK.mk h0 (by omega) h3 h4 h5 h6 h7
theorem OwnK.chg {S : Nat → Prop} (h : OwnK w B e k v n xs) (hc : Chg S w w') (hn : ∀ b, v.ownBlock = some b → ¬ S b) : OwnK w' B e k v n xs := by
  rcases h.forms with ⟨h0, ⟨rfl, rfl, rfl⟩ | ⟨g, cap, cur, rfl, h2, h3, h4, h5, h6, h7⟩⟩
  · exact OwnK.nil _ _ _ _
  · exact OwnK.mk h0 h2 (h3.chg hc (hn g rfl)) h4 h5 h6 h7
theorem OwnK.ext (h : OwnK w B e k v n xs) (hx : Ext w w') : OwnK w' B e k v n xs := h.chg (Chg.of_ext hx fun _ => False) fun _ _ h => h
/-- Its cells. -/
theorem OwnK.cell (h : OwnK w B e k v n xs) {j : Nat} {u : Value} (hu : xs[j]? = some u) : ∃ g cap, v = .slice (some ⟨g, 0, none⟩) n cap ∧ B ≤ g ∧ n ≤ cap ∧ w.cell? ⟨g, j, none⟩ = some u := by
  rcases h.forms with ⟨h0, ⟨rfl, rfl, rfl⟩ | ⟨g, cap, cur, rfl, h2, h3, h4, h5, h6, h7⟩⟩
  · simp at hu
  · refine ⟨g, cap, rfl, h2, h4, h3.cell ?_⟩
    rw [← h6, List.getElem?_take] at hu
    split at hu
    · simpa using hu
    · cases hu
/-- One cell written. -/
theorem OwnK.set {g n' cap : Nat} (h : OwnK w B e k (.slice (some ⟨g, 0, none⟩) n' cap) n xs) (i : Nat) (u : Value) : OwnK (w.setCell ⟨g, i, none⟩ u) B e k (.slice (some ⟨g, 0, none⟩) n' cap) n (xs.set i u) := by
  rcases h.forms with ⟨h0, ⟨h1, -⟩ | ⟨g', cap', cur, h1, h2, h3, h4, h5, h6, h7⟩⟩
  · cases h1
  · simp only [Value.slice.injEq, Option.some.injEq, Addr.mk.injEq, and_true] at h1
    obtain ⟨rfl, rfl, rfl⟩ := h1
    refine OwnK.mk (by simpa using h0) h2 (h3.set i u) h4 (by simpa using h5) ?_ h7
    simp only [Array.toList_setIfInBounds]
    rw [List.take_set, h6]
theorem OwnK.new (w : World) (e : TypeId) (k n : Nat) (cs : Array Value) (h : cs.size = n * k) (hn : n ≤ maxLen) : OwnK (w.alloc (.cells cs e)) w.heap.size e k (.slice (some ⟨w.heap.size, 0, none⟩) n n) n cs.toList :=
  OwnK.mk (by simpa using h) (Nat.le_refl _) (Row.new w e cs) (Nat.le_refl _) h (by rw [List.take_of_length_le (by simp [h])]) hn
end
def AppOutK (w : World) (B : Nat) (e : TypeId) (k : Nat) (v : Value) (n : Nat) (out : List Value) (v' : Value) (w' : World) : Prop :=
  OwnK w' B e k v' n out ∧ w.grownBy w' v.ownBlock ∧ (v'.ownBlock = v.ownBlock ∨ ∃ q, v'.ownBlock = some q ∧ w.heap.size ≤ q)
theorem appk_room {w : World} {B : Nat} {e : TypeId} {k g cap n m : Nat} {cs news : List Value} (hown : OwnK w B e k (.slice (some ⟨g, 0, none⟩) n cap) n cs) (hnl : news.length = m * k) (hroom : n + m ≤ cap) :
    AppOutK w B e k (.slice (some ⟨g, 0, none⟩) n cap) (n + m) (cs ++ news) (.slice (some ⟨g, 0, none⟩) (n + m) cap) (w.setCells g (n * k) news) := by
  rcases hown.forms with ⟨h0, ⟨h, -⟩ | ⟨g', cap', cur, h, hb, hr, hl, hs, ht, hm⟩⟩
  · cases h
  · simp only [Value.slice.injEq, Option.some.injEq, Addr.mk.injEq, and_true, true_and] at h
    obtain ⟨rfl, rfl⟩ := h
    obtain ⟨cur', h1, h2, h3⟩ := setCells_block g news (n * k) w e cur hr
    have hmul : n * k + m * k ≤ cap * k := by rw [← Nat.add_mul]; exact Nat.mul_le_mul_right k hroom
    have hlen : (cs ++ news).length = (n + m) * k := by rw [List.length_append, h0, hnl, Nat.add_mul]
    refine ⟨?_, ⟨(setCells_rest g news _ w).1, (setCells_rest g news _ w).2.1, (setCells_rest g news _ w).2.2, by rw [setCells_size]; exact Nat.le_refl _, fun q _ hk => setCells_other g news _ w q (fun h => hk (by rw [h]; rfl))⟩, .inl rfl⟩
    refine OwnK.mk hlen hb h1 hroom (by omega) ?_ hm
    apply List.ext_getElem?
    intro j
    rw [List.getElem?_take]
    by_cases c : j < (n + m) * k
    · rw [if_pos c, Array.getElem?_toList, h3 j, List.getElem?_append, h0, hs]
      rw [Nat.add_mul] at c
      by_cases c2 : j < n * k
      · rw [if_neg (by omega), if_pos c2, ← ht, List.getElem?_take, if_pos c2, Array.getElem?_toList]
      · rw [if_pos ⟨by omega, by omega, by omega⟩, if_neg c2]
    · rw [if_neg c, List.getElem?_eq_none (by omega)]
theorem appk_grow {w : World} {B : Nat} {e : TypeId} {k n m : Nat} {z v : Value} {cs news : List Value} (hz : z.cells.size = k) (hB : B ≤ w.heap.size) (hc : cs.length = n * k) (hnl : news.length = m * k) (need old : Nat) (hneed : need = n + m) (hm : need ≤ maxLen) :
    AppOutK w B e k v (n + m) (cs ++ news) (.slice (some ⟨w.heap.size, 0, none⟩) need (grownCap w need old e)) (w.drew.alloc (.cells ((cs ++ news).toArray ++ Builtin.zeroCells z.cells (grownCap w need old e - need)) e)) := by
  have hge := grownCap_ge w need old e
  have hcm : grownCap w need old e ≤ maxLen := grownCap_le_maxLen w need old e hm
  have hlen : (cs ++ news).length = need * k := by rw [List.length_append, hc, hnl, hneed, Nat.add_mul]
  refine ⟨?_, ⟨rfl, rfl, rfl, by simp, fun q hq _ => Below.heap_alloc w.drew _ q hq⟩, .inr ⟨_, rfl, Nat.le_refl _⟩⟩
  rw [← hneed]
  refine OwnK.mk hlen hB (Row.new w.drew e _) hge ?_ ?_ hcm
  · simp only [Array.size_append, List.size_toArray, size_zeroCells, hz, hlen]
    have : (grownCap w need old e - need) * k + need * k = grownCap w need old e * k := by rw [← Nat.add_mul]; congr 1; omega
    have h2 : k * (grownCap w need old e - need) = (grownCap w need old e - need) * k := Nat.mul_comm _ _
    omega
  · rw [Array.toList_append, List.take_left' (by rw [← hlen])]
theorem run_appk {P : Program} (w : World) (t tx ty e : TypeId) (z : Value) (k bytes : Nat) (ht : P.underlying t = some (.slice e))
    (hi : (P.info? e).map (fun i => (i.zero, i.size, i.bytes)) = some (some z, k, bytes)) (hz : z.cells.size = k)
    {B n m : Nat} {v : Value} {cs : List Value} (hown : OwnK w B e k v n cs) {x : Value} {news : List Value} (hx : Src P k tx x m news w) (hnl : news.length = m * k)
    (hm : n + m ≤ maxLen) (hb : (2 * (n + m) + 768) * bytes ≤ 281474976710656) (hB : B ≤ w.heap.size) :
    ∃ v' w', (Builtin.append_ #[t, tx] ty #[v, x]).run P w = .ok v' w' ∧ AppOutK w B e k v (n + m) (cs ++ news) v' w' := by
  obtain ⟨i, hi, hzz, hs, hby⟩ := info_parts hi
  have hm' : ((n + m : Nat) : Int) ≤ 9223372036854775807 := by simp only [maxLen] at hm; omega
  have hfit : ∀ old, old < n + m → Builtin.nextslicecap (n + m) old * i.bytes ≤ 281474976710656 := fun old ho => by
    rw [hby]; exact Nat.le_trans (Nat.mul_le_mul_right _ (nextslicecap_le _ _ ho)) hb
  rcases hown.forms with ⟨h0, ⟨rfl, rfl, rfl⟩ | ⟨g, cap, cur, rfl, hbg, hr, hl, hcs, htk, hcap⟩⟩
  · by_cases hm0 : m = 0
    · subst hm0
      have hn0 : news = [] := List.eq_nil_of_length_eq_zero (by omega)
      subst hn0
      refine ⟨.slice none 0 0, w, ?_, OwnK.nil _ _ _ _, ⟨rfl, rfl, rfl, Nat.le_refl _, fun _ _ _ => rfl⟩, .inl rfl⟩
      have hc : (Builtin.firstCells k 0 x).run P w = .ok #[] w := hx.cells
      have hlen : ∀ w', (Builtin.lenOf x).run P w' = .ok 0 w' := hx.len
      rcases hx.kind with ⟨e', hk⟩ | hk <;> simp [Builtin.append_, run_underlying ht, run_underlying hk, sizeOf, typeInfo, hi, hs, hlen, hc]
    · have hr := run_append_grow_src (P := P) w t tx ty e i z ht hi hzz none 0 0 [] (by simp [Builtin.firstCells]) x m news (by rw [hs]; exact hx) (by omega) (by simpa using hm') (by simpa using hfit 0 (by simp; omega))
      exact ⟨_, _, hr, appk_grow (w := w) (cs := []) hz hB (by simp) hnl _ 0 (by simp) (by simpa using hm)⟩
  · by_cases hroom : n + m ≤ cap
    · have hmul : n * k + m * k ≤ cap * k := by rw [← Nat.add_mul]; exact Nat.mul_le_mul_right k hroom
      have hc : ∀ j, j < news.length → (w.cell? ⟨g, 0 + n * i.size + j, none⟩).isSome = true := fun j hj => by
        rw [hr.cell (v := cur[0 + n * i.size + j]'(by rw [hs]; omega)) (by rw [Array.getElem?_eq_getElem])]; rfl
      have hrun := run_append_room_src (P := P) w t tx ty e i ht hi g 0 n cap x m news (by rw [hs]; exact hx) hroom hc (fun j _ => hr.unfrozen _)
      rw [hs, Nat.zero_add] at hrun
      exact ⟨_, _, hrun, appk_room hown hnl hroom⟩
    · have hold : (Builtin.firstCells i.size n (.slice (some ⟨g, 0, none⟩) n cap)).run P w.drew = .ok cs.toArray w.drew := by
        refine run_firstCells_some (P := P) w.drew i.size n ⟨g, 0, none⟩ n cap cs (by rw [hs, h0]) fun j u hu => ?_
        rw [Addr.add_lit, Nat.zero_add]
        obtain ⟨g', cap', e1, -, -, h2⟩ := hown.cell hu
        simp only [Value.slice.injEq, Option.some.injEq, Addr.mk.injEq, and_true, true_and] at e1
        obtain ⟨rfl, -⟩ := e1
        exact h2
      have hrun := run_append_grow_src (P := P) w t tx ty e i z ht hi hzz (some ⟨g, 0, none⟩) n cap cs hold x m news (by rw [hs]; exact hx) (by omega) hm' (hfit cap (by omega))
      exact ⟨_, _, hrun, appk_grow hz hB h0 hnl _ cap rfl hm⟩
/-- A part of a row as what is appended. -/
theorem OwnK.src {P : Program} {w : World} {B n k : Nat} {e : TypeId} {v : Value} {xs : List Value} {tx e' : TypeId} (hk : P.underlying tx = some (.slice e')) (h : OwnK w B e k v n xs) (h1 : ∀ u ∈ xs, u.oneCell' = true) {lo hi : Nat} (hlh : lo ≤ hi) (hhi : hi ≤ n) {x : Value}
    (hx : ∀ g cap, v = .slice (some ⟨g, 0, none⟩) n cap → ∃ c, x = .slice (some ⟨g, lo * k, none⟩) (hi - lo) c) (hx0 : v = .slice none 0 0 → ∃ c, x = .slice none 0 c) : Src P k tx x (hi - lo) ((xs.drop (lo * k)).take ((hi - lo) * k)) w := by
  rcases h.forms with ⟨h0, ⟨rfl, rfl, rfl⟩ | ⟨g, cap, cur, rfl, h2, h3, h4, h5, h6, h7⟩⟩
  · obtain ⟨c, rfl⟩ := hx0 rfl
    have e1 : hi - lo = 0 := by omega
    rw [e1]
    simp only [List.drop_nil, List.take_nil]
    exact Src.ofNil w hk c
  · obtain ⟨c, rfl⟩ := hx g cap rfl
    have hmul : lo * k + (hi - lo) * k ≤ n * k := by rw [← Nat.add_mul]; exact Nat.mul_le_mul_right k (by omega)
    refine Src.ofSlice w hk ⟨g, lo * k, none⟩ (hi - lo) c _ (by rw [List.length_take, List.length_drop, h0]; omega) (fun j u hu => ?_) (fun u hu => h1 u (List.mem_of_mem_drop (List.mem_of_mem_take hu)))
    rw [List.getElem?_take] at hu
    split at hu
    · rw [List.getElem?_drop] at hu
      obtain ⟨g', cap', e1, -, -, hc⟩ := h.cell hu
      simp only [Value.slice.injEq, Option.some.injEq, Addr.mk.injEq, and_true, true_and] at e1
      obtain ⟨rfl, -⟩ := e1
      rw [Addr.add_lit]; exact hc
    · cases hu
section
variable {P : Program} {w : World} {o : Oper} {a : Act} {Q : Exit → Act → World → Prop} {K : Act → World → Prop}
theorem wp_appk (s x : Operand) (t tx e : TypeId) (z : Value) (k bytes : Nat) (ho : o.op = .call { callee := .builtin .append, args := #[s, x], argTypes := #[t, tx] }) (ht : P.underlying t = some (.slice e))
    (hi : (P.info? e).map (fun i => (i.zero, i.size, i.bytes)) = some (some z, k, bytes)) (hz : z.cells.size = k)
    {B n m : Nat} {v : Value} {cs : List Value} (hs : a.eval s = v) (hown : OwnK w B e k v n cs) {xv : Value} {news : List Value} (hxv : a.eval x = xv) (hx : Src P k tx xv m news w) (hnl : news.length = m * k)
    (hm : n + m ≤ maxLen) (hb : (2 * (n + m) + 768) * bytes ≤ 281474976710656) (hB : B ≤ w.heap.size)
    (hK : ∀ ad c w', AppOutK w B e k v (n + m) (cs ++ news) (.slice ad (n + m) c) w' → K (a.put o.dst (.slice ad (n + m) c)) w') : Oper.wp P o a w K Q := by
  obtain ⟨v', w', h2, h3⟩ := run_appk (P := P) w t tx o.type e z k bytes ht hi hz hown hx hnl hm hb hB
  unfold Oper.wp execOp
  simp only [ho, resolve, invoke, builtin, Sem.run_bind, Sem.run_pure, Result.andThen_ok, List.map_toArray, List.map_cons, List.map_nil, hs, hxv, h2]
  obtain ⟨ad, c, rfl⟩ := h3.1.slice
  exact hK ad c w' h3
end
end Go.Proofs.Ytnphkddhckcpmaa
