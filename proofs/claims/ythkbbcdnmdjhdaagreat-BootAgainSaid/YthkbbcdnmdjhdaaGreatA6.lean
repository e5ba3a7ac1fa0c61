/-
  rs: New, K, N, even, row.
  rs: Encode.
  rs: Encode of what may not be; there.
  rs: the data of k shards.
  rs: Rebuild.
  rs: Rebuild of too few, of none; Verify; what is made again is what it was.
-/
import Derived.Test.YthkbbcdnmdjhdaaGreatA4
import Derived.Test.YthkbbcdnmdjhdaaGreatA5
import Derived.OwnWalk
/-! XRsA: rs: New, K, N, even, row. -/
namespace Go.Proofs.YthkbbcdnmdjhdaaGreat
open Go.RowKit Gf
set_option maxRecDepth 100000
set_option maxHeartbeats 4000000
attribute [local go_sem] min_int2 max_int2

/-- A code in memory: k, n, the matrix' list, the table. -/
def CodeAt (w : World) (cb k n : Nat) (X : Mat.M) : Prop :=
  ∃ xg t, Row w cb 222 #[.int .i64 k, .int .i64 n, .slice (some ⟨xg, 0, none⟩) n n, .pointer (some ⟨t, 0, none⟩)] ∧ BRows w (.slice (some ⟨xg, 0, none⟩) n n) X ∧ TableAt w t
theorem CodeAt.ext {w w' : World} {cb k n : Nat} {X : Mat.M} (h : CodeAt w cb k n X) (hx : Ext w w') : CodeAt w' cb k n X := by
  obtain ⟨xg, t, h1, h2, h3⟩ := h
  exact ⟨xg, t, h1.ext hx, h2.ext hx, h3.ext hx⟩
theorem CodeAt.cells {w : World} {cb k n : Nat} {X : Mat.M} (h : CodeAt w cb k n X) : ∃ xg t, w.cell? ⟨cb, 0, none⟩ = some (.int .i64 k) ∧ w.cell? ⟨cb, 1, none⟩ = some (.int .i64 n) ∧ w.cell? ⟨cb, 2, none⟩ = some (.slice (some ⟨xg, 0, none⟩) n n) ∧ w.cell? ⟨cb, 3, none⟩ = some (.pointer (some ⟨t, 0, none⟩)) ∧ BRows w (.slice (some ⟨xg, 0, none⟩) n n) X ∧ TableAt w t := by
  obtain ⟨xg, t, h1, h2, h3⟩ := h
  exact ⟨xg, t, h1.cell rfl, h1.cell rfl, h1.cell rfl, h1.cell rfl, h2, h3⟩

theorem rsnew_any (k m : Nat) (h1 : 1 ≤ k) (h2 : 1 ≤ m) (h3 : k + m ≤ 255) (w : World) :
    Calls Tryz.prog 96 #[.int .i64 k, .int .i64 m] w fun e w' => ∃ cb X, Mat.sys k m = some X ∧ e = .returned (.tuple #[.pointer (some ⟨cb, 0, none⟩), .int .i64 0]) ∧ CodeAt w' cb k (k + m) X ∧ Ext w w' := by
  obtain ⟨q, hq⟩ : ∃ q, k + m = q := ⟨_, rfl⟩
  have hk : (k : Int) + (m : Int) = (q : Int) := by omega
  rw [hq]
  have HQ := Lib.hid hq
  have hq2 : q ≤ 255 := by omega
  go_enter Tryz.func96, Tryz.ntmps96
  go_wp2_with fail
  refine (sys_any k m h1 h2 h3 _).mono ?_; rintro e w1 ⟨X, g, hX, rfl, hM, x1⟩
  rw [HQ.out]
  have XS := (Mat.sys_sh hX).1
  rw [HQ.out] at XS
  have HM := Lib.hid (hM.brows (n := q) XS.symm)
  have X1 := Lib.hid x1
  have HX := Lib.hid hX
  clear hX hM x1 XS hq h3
  go_wp2_with fail
  refine (new_any _).mono ?_; rintro e w3 ⟨t, ht, rfl, hT, x3⟩
  have x4 : Ext w3 (w3.alloc (.cells #[.int .i64 k, .int .i64 q, .slice (some ⟨g, 0, none⟩) q q, .pointer (some ⟨t, 0, none⟩)] 222)) := (Ext.refl w3).alloc (Nat.le_refl _) _
  have hC : CodeAt (w3.alloc (.cells #[.int .i64 k, .int .i64 q, .slice (some ⟨g, 0, none⟩) q q, .pointer (some ⟨t, 0, none⟩)] 222)) w3.heap.size k q X := ⟨g, t, Row.new w3 _ _, (HM.out.ext x3).ext x4, hT.ext x4⟩
  have HC := Lib.hid hC
  have X4 := Lib.hid (Ext.trans (Ext.trans X1.out x3) x4)
  clear hC x4 x3 hT ht
  go_wp2_with fail
  go_ret2
  exact ⟨_, X, HX.out, rfl, HC.out, X4.out⟩
theorem rsnew_no (k m : Int) (h : ¬ (1 ≤ k ∧ 1 ≤ m ∧ k + m ≤ 255)) (w : World) :
    Calls Tryz.prog 96 #[.int .i64 k, .int .i64 m] w fun e w' => e = .returned (.tuple #[.pointer none, .int .i64 1]) ∧ w = w' := by
  have H := Lib.hid h
  clear h
  go_enter Tryz.func96, Tryz.ntmps96
  go_wp2_with fail
  refine (sys_no k m H.out _).mono ?_; rintro e w1 ⟨rfl, rfl⟩
  go_wp2_with fail
  go_ret2
  exact ⟨rfl, rfl⟩
end Go.Proofs.YthkbbcdnmdjhdaaGreat
/-! XRsB: rs: Encode. -/
namespace Go.Proofs.YthkbbcdnmdjhdaaGreat
open Go.RowKit Gf
set_option maxRecDepth 100000
set_option maxHeartbeats 4000000
attribute [local go_sem] min_int2 max_int2

/-- A code's matrix: k data rows, n in all. -/
structure CodeMat (X : Mat.M) (k n : Nat) : Prop where
  k1 : 1 ≤ k
  kn : k < n
  n255 : n ≤ 255
  sh : Mat.Sh X n k
  top : X.take k = Mat.unit k
theorem CodeMat.of_sys {k m : Nat} {X : Mat.M} (h1 : 1 ≤ k) (h2 : 1 ≤ m) (h3 : k + m ≤ 255) (h : Mat.sys k m = some X) : CodeMat X k (k + m) := ⟨h1, by omega, h3, Mat.sys_sh h, Mat.sys_top h⟩
theorem CodeMat.enc_take {X D : Mat.M} {k n m : Nat} (h : CodeMat X k n) (hD : Mat.Sh D k m) : (Mat.mmul X D m).take k = D := by
  rw [Mat.mmul_take, h.top, Mat.unit_mmul hD]
theorem CodeMat.enc_le {X D : Mat.M} {k n m i : Nat} (h : CodeMat X k n) (hD : Mat.Sh D k m) (hi : i ≤ k) : (Mat.mmul X D m).take i = D.take i := by
  have := h.enc_take hD
  calc (Mat.mmul X D m).take i = ((Mat.mmul X D m).take k).take i := by rw [List.take_take, Nat.min_eq_left hi]
    _ = D.take i := by rw [this]

end Go.Proofs.YthkbbcdnmdjhdaaGreat
/-! XRsC: rs: Encode of what may not be; there. -/
namespace Go.Proofs.YthkbbcdnmdjhdaaGreat
open Go.RowKit Gf
set_option maxRecDepth 100000
set_option maxHeartbeats 4000000
attribute [local go_sem] min_int2 max_int2

section
variable {W : World} {ops : Array Oper} {rest : List Oper} {o : Oper} {a : Act} {Q : Exit → Act → World → Prop} {K : Act → World → Prop}
theorem wp_int1 (s x : Operand) (ho : o.op = .call { callee := .builtin .append, args := #[s, x], argTypes := #[28, 28] })
    {B : Nat} {xa : Option Addr} {i xc q z : Nat} {L : List Nat} (hs : a.eval s = .slice xa i xc) (hx : a.eval x = .slice (some ⟨q, 0, none⟩) 1 1) (hq : q = W.heap.size)
    (hR : Own W B 3 (.slice xa i xc) (ivs (L.map Int.ofNat))) (hB : B ≤ W.heap.size) (hlen : L.length ≤ 70000)
    (hK : ∀ ad c w', Own w' B 3 (.slice ad (i + 1) c) (ivs ((L ++ [z]).map Int.ofNat)) → Below B W w' → K (a.put o.dst (.slice ad (i + 1) c)) w') : Oper.wp Tryz.prog o a (W.alloc (.cells #[.int .i64 (z : Int)] 3)) K Q := by
  subst hq
  have x6 : Ext W (W.alloc (.cells #[.int .i64 (z : Int)] 3)) := (Ext.refl W).alloc (Nat.le_refl _) _
  have hsrc : Cells (W.alloc (.cells #[.int .i64 (z : Int)] 3)) (.slice (some ⟨W.heap.size, 0, none⟩) 1 1) [.int .i64 (z : Int)] := (Own.new W 0 3 #[.int .i64 (z : Int)] (Nat.zero_le _) (by unfold maxLen; simp)).cells
  have o1 := hR.ext x6
  obtain ⟨a', c', e⟩ := o1.slice
  have hll : (ivs (L.map Int.ofNat)).length = L.length := by simp
  rw [hll] at e
  simp only [Value.slice.injEq] at e
  obtain ⟨rfl, rfl, rfl⟩ := e
  refine wp_appx s x 28 28 3 (.int .i64 0) 8 ho Tryz.underlying28 info_int rfl hs o1 hx (Cells.src Tryz.underlying28 hsrc (fun u hu => by rw [List.mem_singleton.1 hu]; rfl)) (by rw [hll]; simp [maxLen]; omega) (by rw [hll]; simp; omega) (Nat.le_trans hB x6.size) (L.length + 1) (by rw [hll]; simp) fun ad c w' ha => hK ad c w' ?_ ?_
  · have := ha.1
    rw [show ivs (L.map Int.ofNat) ++ [Value.int .i64 (z : Int)] = ivs ((L ++ [z]).map Int.ofNat) from by simp] at this
    exact this
  · exact Below.grown (Below.mono x6 hB) ha.2.1 (Nat.le_trans hB x6.size) (fun k hk => o1.block k hk)
end
/-- The places that have something. -/
def idx (S : List (List UInt8)) : List Nat := (List.range S.length).filter fun i => decide (0 < (S.getD i []).length)
def idxTo (S : List (List UInt8)) (i : Nat) : List Nat := (List.range i).filter fun i => decide (0 < (S.getD i []).length)
theorem idxTo_succ (S : List (List UInt8)) (i : Nat) : idxTo S (i + 1) = if 0 < (S.getD i []).length then idxTo S i ++ [i] else idxTo S i := by
  unfold idxTo
  rw [List.range_succ, List.filter_append]
  by_cases h : 0 < (S.getD i []).length
  · rw [if_pos h, List.filter_cons, if_pos (decide_eq_true h)]; rfl
  · rw [if_neg h, List.filter_cons, if_neg (by rw [decide_eq_false h]; exact Bool.false_ne_true)]; simp
end Go.Proofs.YthkbbcdnmdjhdaaGreat
/-! XRsD: rs: the data of k shards. -/
namespace Go.Proofs.YthkbbcdnmdjhdaaGreat
open Go.RowKit Gf
set_option maxRecDepth 100000
set_option maxHeartbeats 4000000
attribute [local go_sem] min_int2 max_int2

/-- A row that was there ahead of the list. -/
theorem OffB.old {w : World} {u : Value} {l : List UInt8} {r : Option Nat} (h : Bytes w u l) (hr : ∀ q, r = some q → w.heap.size ≤ q) : OffB r u l := by
  by_cases h0 : l = []
  · exact .inl h0
  · obtain ⟨b, o, n, c, rfl, hb⟩ := h.head h0
    refine .inr (.inr fun e => ?_)
    have := hr b e.symm
    omega
theorem RowsOwn.from {w : World} {B : Nat} {v : Value} {ls : List (List UInt8)} (h : RowsOwn w B v ls) : ∀ q, v.ownBlock = some q → B ≤ q := by
  obtain ⟨vs, h1, _⟩ := h
  exact fun q hq => h1.block q hq

end Go.Proofs.YthkbbcdnmdjhdaaGreat
/-! XRsE: rs: Rebuild. -/
namespace Go.Proofs.YthkbbcdnmdjhdaaGreat
open Go.RowKit Gf
set_option maxRecDepth 100000
set_option maxHeartbeats 4000000
attribute [local go_sem] min_int2 max_int2

theorem grownBy_set (w : World) (g i : Nat) (v : Value) : w.grownBy (w.setCell ⟨g, i, none⟩ v) (some g) := by
  refine ⟨rfl, rfl, rfl, ?_, fun k hk hne => ?_⟩
  · rw [show (w.setCell ⟨g, i, none⟩ v).heap.size = w.heap.size from by simp]; exact Nat.le_refl _
  · exact Below.heap_setCell w ⟨g, i, none⟩ v k (fun e => hne (by rw [e]))
theorem RowsOwn.set {w : World} {B g n cap : Nat} {ls : List (List UInt8)} (h : RowsOwn w B (.slice (some ⟨g, 0, none⟩) n cap) ls) {u : Value} {l : List UInt8} (hu : Bytes w u l) (ho : OffB (some g) u l) (i : Nat) :
    RowsOwn (w.setCell ⟨g, i, none⟩ u) B (.slice (some ⟨g, 0, none⟩) n cap) (ls.set i l) := by
  obtain ⟨vs, h1, h2, h3⟩ := h
  refine ⟨vs.set i u, h1.set i u, by simp [h2], fun j x k hx hk => ?_⟩
  have hg := grownBy_set w g i u
  rw [List.getElem?_set] at hx hk
  by_cases e : i = j
  · rw [if_pos e] at hx hk
    split at hx
    · rename_i hi
      rw [if_pos (by omega)] at hk
      simp only [Option.some.injEq] at hx hk
      subst hx hk
      exact ⟨hu.grown hg ho, ho⟩
    · cases hx
  · rw [if_neg e] at hx hk
    obtain ⟨k1, k2⟩ := h3 j x k hx hk
    exact ⟨k1.grown hg k2, k2⟩

theorem RowsOwn.open1 {w : World} {B : Nat} {v : Value} {ls : List (List UInt8)} (h : RowsOwn w B v ls) (h0 : 0 < ls.length) : ∃ g c, v = .slice (some ⟨g, 0, none⟩) ls.length c ∧ B ≤ g := by
  obtain ⟨vs, h1, h2, h3⟩ := h
  rcases h1.forms with ⟨_, e⟩ | ⟨g, cap, cur, e, hb, -⟩
  · rw [e] at h2; simp at h2; omega
  · exact ⟨g, cap, by rw [e, h2], hb⟩
theorem RowsOwn.spot {w : World} {B g n cap : Nat} {ls : List (List UInt8)} (h : RowsOwn w B (.slice (some ⟨g, 0, none⟩) n cap) ls) {i : Nat} (hi : i < ls.length) : (∃ u, w.cell? ⟨g, i, none⟩ = some u ∧ ∃ a n c, u = .slice a n c) ∧ w.frozen? ⟨g, i, none⟩ = false := by
  obtain ⟨vs, h1, h2, h3⟩ := h
  have hiv : i < vs.length := by omega
  obtain ⟨a, c, e⟩ := (h3 i vs[i] ls[i] (List.getElem?_eq_getElem hiv) (List.getElem?_eq_getElem hi)).1.slice
  exact ⟨⟨vs[i], h1.parts.2.2.2.2.2.1 i _ (List.getElem?_eq_getElem hiv), _, _, _, e⟩, h1.parts.2.2.2.2.2.2 i⟩
theorem idx_mem {S : Mat.M} {i : Nat} : i ∈ idx S ↔ i < S.length ∧ 0 < (S.getD i []).length := by
  unfold idx
  rw [List.mem_filter, List.mem_range]
  simp only [decide_eq_true_eq]
/-- What comes out: what is there, and what is made for the rest. -/
def over (E S : Mat.M) (nn : Nat) : Mat.M := (List.range nn).map fun i => if 0 < (S.getD i []).length then S.getD i [] else E.getD i []

end Go.Proofs.YthkbbcdnmdjhdaaGreat
/-! XRsF: rs: Rebuild of too few, of none; Verify; what is made again is what it was. -/
namespace Go.Proofs.YthkbbcdnmdjhdaaGreat
open Go.RowKit Gf
set_option maxRecDepth 100000
set_option maxHeartbeats 4000000
attribute [local go_sem] min_int2 max_int2

theorem idx_nodup (S : Mat.M) : (idx S).Nodup := by
  unfold idx
  exact List.Pairwise.filter _ List.nodup_range
theorem over_back {X Z D S : Mat.M} {k nn n : Nat} (hX : CodeMat X k nn) (hD : Mat.Sh D k n) (hSl : S.length = nn) (hS : ∀ i, i < nn → (S.getD i []).length = 0 ∨ S.getD i [] = (Mat.mmul X D n).getD i []) (hk : k ≤ (idx S).length) (hZ : Mat.minv k (Mat.pick X ((idx S).take k)) = some Z) :
    over (Mat.mmul X (Mat.mmul Z (Mat.pick S ((idx S).take k)) n) n) S nn = Mat.mmul X D n := by
  have hE := Mat.mmul_sh (b := D) (m := n) hX.sh
  have hL : ∀ i ∈ (idx S).take k, i < nn ∧ S.getD i [] = (Mat.mmul X D n).getD i [] := fun i hi => by
    obtain ⟨h1, h2⟩ := idx_mem.1 (List.mem_of_mem_take hi)
    rw [hSl] at h1
    refine ⟨h1, (hS i h1).resolve_left (by omega)⟩
  have hlen : ((idx S).take k).length = k := by rw [List.length_take]; omega
  have hp : Mat.pick S ((idx S).take k) = Mat.pick (Mat.mmul X D n) ((idx S).take k) := by
    unfold Mat.pick
    exact List.map_congr_left fun i hi => (hL i hi).2
  have hPX := Mat.pick_sh hX.sh (fun i hi => (hL i hi).1)
  rw [hlen] at hPX
  have hZs := (Mat.minv_spec hPX hZ).1
  rw [hp, ← Mat.pick_mmul hX.sh (fun i hi => (hL i hi).1), ← Mat.mmul_assoc hZs hPX hD, Mat.minv_left hPX hZ, Mat.unit_mmul hD]
  apply List.ext_getElem?
  intro i
  by_cases hi : i < nn
  · unfold over
    rw [List.getElem?_map, List.getElem?_range hi, (hE.get hi).1]
    simp only [Option.map_some]
    by_cases h0 : 0 < (S.getD i []).length
    · rw [if_pos h0, (hS i hi).resolve_left (by omega)]
    · rw [if_neg h0]
  · rw [List.getElem?_eq_none (by unfold over; simp; omega), List.getElem?_eq_none (by rw [hE.1]; omega)]

end Go.Proofs.YthkbbcdnmdjhdaaGreat
