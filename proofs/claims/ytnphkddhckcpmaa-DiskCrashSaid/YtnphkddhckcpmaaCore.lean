/-
  Small facts used by all walks of this work: bit operations on naturals, bytes as values, 'a later world that kept all that was there' (Ext), rows of cells, and how they are carried on. No statement about the program.
-/
import Derived.Test.YtnphkddhckcpmaaProg
import Derived.WalkKit
import Derived.KernelRfl
import Derived.WalkSpells
import Derived.WalkLawsBesides
import Derived.Handy
import Derived.Lib.Hide
namespace Go.Proofs.Ytnphkddhckcpmaa
open Go.RowKit

/-! ### bits -/
theorem ofInt_i64 (a : Nat) (ha : a < 9223372036854775808) : (BitVec.ofInt 64 (a : Int)).toNat = a := by
  rw [BitVec.ofInt_natCast, BitVec.toNat_ofNat]; exact Nat.mod_eq_of_lt (by omega)
theorem i64_xor_nat (a b : Nat) (ha : a < 9223372036854775808) (hb : b < 9223372036854775808) : bits .xor .i64 (a : Int) (b : Int) = ((a ^^^ b : Nat) : Int) := by
  have hx : a ^^^ b < 2 ^ 63 := Nat.xor_lt_two_pow (by omega) (by omega)
  show IntKind.i64.wrap ((BitVec.ofInt 64 (a : Int) ^^^ BitVec.ofInt 64 (b : Int)).toNat : Int) = _
  rw [BitVec.toNat_xor, ofInt_i64 a ha, ofInt_i64 b hb, IntKind.wrap_i64]
  omega
theorem i64_and_nat (a b : Nat) (ha : a < 9223372036854775808) (hb : b < 9223372036854775808) : bits .and .i64 (a : Int) (b : Int) = ((a &&& b : Nat) : Int) := by
  have hx : a &&& b < 2 ^ 63 := Nat.and_lt_two_pow _ (by omega)
  show IntKind.i64.wrap ((BitVec.ofInt 64 (a : Int) &&& BitVec.ofInt 64 (b : Int)).toNat : Int) = _
  rw [BitVec.toNat_and, ofInt_i64 a ha, ofInt_i64 b hb, IntKind.wrap_i64]
  omega

theorem ret_i {k : IntKind} {a b : Int} (h : a = b) : Ending.returned (.int k a) = .returned (.int k b) := by rw [h]
theorem ret_b {a b : Bool} (h : a = b) : Ending.returned (.bool a) = .returned (.bool b) := by rw [h]
theorem ret_ib {k : IntKind} {a b : Int} {c d : Bool} (h : a = b) (g : c = d) : Ending.returned (.tuple #[.int k a, .bool c]) = .returned (.tuple #[.int k b, .bool d]) := by rw [h, g]

/-! ### min, max of two numbers (to be given to the walk by 'attribute [local go_sem]') -/
theorem min_int2 (ats : Array TypeId) (ty : TypeId) (k k' : IntKind) (x y : Int) : Builtin.min_ ats ty #[.int k x, .int k' y] = pure (.int k (min x y)) := by
  simp only [Builtin.min_, List.foldlM_cons, List.foldlM_nil, Builtin.min2]
  by_cases h : y < x
  · rw [if_pos h, Int.min_eq_right (by omega)]; rfl
  · rw [if_neg h, Int.min_eq_left (by omega)]; rfl
theorem max_int2 (ats : Array TypeId) (ty : TypeId) (k k' : IntKind) (x y : Int) : Builtin.max_ ats ty #[.int k x, .int k' y] = pure (.int k (max x y)) := by
  simp only [Builtin.max_, List.foldlM_cons, List.foldlM_nil, Builtin.max2]
  by_cases h : y > x
  · rw [if_pos h, Int.max_eq_right (by omega)]; rfl
  · rw [if_neg h, Int.max_eq_left (by omega)]; rfl

/-! ### later worlds -/
/-- Nothing that was there has turned. -/
abbrev Ext (w w' : World) : Prop := Below w.heap.size w w'
theorem Ext.refl (w : World) : Ext w w := Below.refl _ _
theorem Ext.trans {a b c : World} (h : Ext a b) (k : Ext b c) : Ext a c := Below.trans h (k.mono h.size)
theorem Ext.cell {w w' : World} (h : Ext w w') {p : Addr} {v : Value} (hc : w.cell? p = some v) : w'.cell? p = some v :=
  (Below.cell h (World.block_lt_of_cell? w p hc)).trans hc
theorem Ext.unfrozen {w w' : World} (h : Ext w w') {p : Addr} {v : Value} (hc : w.cell? p = some v) (hf : w.frozen? p = false) : w'.frozen? p = false :=
  (Below.frozen h (World.block_lt_of_cell? w p hc)).trans hf
theorem Ext.blk {w w' : World} (h : Ext w w') {k : Nat} {o : Obj} (hc : w.heap[k]? = some o) : w'.heap[k]? = some o :=
  (h.block k (Array.getElem?_eq_some_iff.1 hc).1).trans hc
theorem Ext.of_drawn (w : World) (n : Nat) : Ext w (w.drewN n) := ⟨rfl, rfl, rfl, Nat.le_refl _, fun _ _ => rfl⟩
theorem Ext.of_eq {w w' : World} (h : w = w') : Ext w w' := h ▸ Ext.refl w

/-! ### rows of cells, block by block -/
/-- Block b is a row of just these cells, none of which a string shares. -/
def Row (w : World) (b : Nat) (e : TypeId) (cs : Array Value) : Prop := w.heap[b]? = some (.cells cs e (0, 0))
theorem Row.lt {w : World} {b : Nat} {e : TypeId} {cs : Array Value} (h : Row w b e cs) : b < w.heap.size := (Array.getElem?_eq_some_iff.1 h).1
theorem Row.cell {w : World} {b : Nat} {e : TypeId} {cs : Array Value} (h : Row w b e cs) {i : Nat} {v : Value} (hc : cs[i]? = some v) : w.cell? ⟨b, i, none⟩ = some v := by
  unfold Row at h; simp [World.cell?, h, hc]
theorem Row.unfrozen {w : World} {b : Nat} {e : TypeId} {cs : Array Value} (h : Row w b e cs) (i : Nat) : w.frozen? ⟨b, i, none⟩ = false := by
  unfold Row at h; simp [World.frozen?, h]
theorem Row.set {w : World} {b : Nat} {e : TypeId} {cs : Array Value} (h : Row w b e cs) (i : Nat) (v : Value) : Row (w.setCell ⟨b, i, none⟩ v) b e (cs.setIfInBounds i v) := by
  unfold Row at *; simp [World.setCell, Array.getElem?_modify, h]
theorem Row.set_ne {w : World} {b : Nat} {e : TypeId} {cs : Array Value} (h : Row w b e cs) {p : Addr} (hp : p.block ≠ b) (v : Value) : Row (w.setCell p v) b e cs := by
  unfold Row at *; simp [World.setCell, Array.getElem?_modify, h, hp]
theorem Row.drew {w : World} {b : Nat} {e : TypeId} {cs : Array Value} (h : Row w b e cs) : Row w.drew b e cs := h
theorem Row.drewN {w : World} {b : Nat} {e : TypeId} {cs : Array Value} (h : Row w b e cs) (n : Nat) : Row (w.drewN n) b e cs := h
theorem Row.new (w : World) (e : TypeId) (cs : Array Value) : Row (w.alloc (.cells cs e)) w.heap.size e cs := by
  unfold Row World.alloc; simp
theorem Row.new' (w : World) (e : TypeId) (cs : Array Value) {n : Nat} (h : n = w.heap.size) : Row (w.alloc (.cells cs e)) n e cs := h ▸ Row.new w e cs
theorem Row.alloc {w : World} {b : Nat} {e : TypeId} {cs : Array Value} (h : Row w b e cs) (o : Obj) : Row (w.alloc o) b e cs := by
  have := h.lt
  unfold Row World.alloc at *; simp only [Array.getElem?_push]; rw [if_neg (by omega)]; exact h
theorem Row.ext {w w' : World} {b : Nat} {e : TypeId} {cs : Array Value} (h : Row w b e cs) (hx : Ext w w') : Row w' b e cs := hx.blk h
theorem Row.below {w w' : World} {B b : Nat} {e : TypeId} {cs : Array Value} (h : Row w b e cs) (hx : Below B w w') (hb : b < B) : Row w' b e cs := (hx.block b hb).trans h

theorem make_row {P : Program} (t e : TypeId) (z : Value) (bytes n : Nat) (ht : P.underlying t = some (.slice e))
    (hi : (P.info? e).map (fun i => (i.zero, i.size, i.bytes)) = some (some z, 1, bytes)) (hz1 : z.cells = #[z]) (hb : bytes * n ≤ 281474976710656) (hn : n ≤ 9223372036854775807) (w : World) :
    (Instr.makeSlice t (.int .i64 (n : Int)) (.int .i64 (n : Int))).run P w = .ok (.slice (some ⟨w.heap.size, 0, none⟩) n n) (w.alloc (.cells (Array.replicate n z) e)) := by
  obtain ⟨i, hi, hz, hs, hby⟩ := info_parts hi
  have hb' : (i.bytes : Int) * (n : Int) ≤ 281474976710656 := by
    have h : ((i.bytes * n : Nat) : Int) ≤ 281474976710656 := by rw [hby]; omega
    rwa [Int.natCast_mul] at h
  rw [run_make (P := P) w t e i z ht hi hz .i64 .i64 n n (by omega) (by omega) hb' (by omega)]
  congr 4
  rw [hz1, hs, Nat.mul_one, Int.toNat_natCast]
  apply Array.ext
  · simp [madeCells]
  · intro k h1 h2
    simp [madeCells, Nat.mod_one]
end Go.Proofs.Ytnphkddhckcpmaa
