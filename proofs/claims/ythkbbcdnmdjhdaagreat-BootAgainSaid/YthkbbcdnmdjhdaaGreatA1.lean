/-
  Small facts used by all walks of this work: bit operations on naturals, bytes as values, 'a later world that kept all that was there' (Ext), rows of cells, and how they are carried on. No statement about the program.
  The field of 256 elements in plain Lean: doubling, the bitwise product, the tables of powers and logarithms, and the laws of a field. No program in sight.
  Contracts of the field's functions that keep no table: doubling, the product bit by bit (the program's and the reference's), and the making of the table.
  Rows of bytes over the field, in plain Lean: a row to which a multiple of another is added.
  Memory for the walks: a slice that reads as a list of cells (Cells, Bytes), a slice that the call owns (Own), append onto it, make. No statement about the program.
  gf.New: the table that is made holds all powers of two and all logarithms.
  Contracts of the table's methods: made, Exp, Log, Mul, Div, Inv, Pow.
  Contracts of MulAdd: the table's and the reference's: a new row, nothing that was there is changed.
  Contracts of the reference's field functions: Pow, Exp, Log, Inv, Div, MulAdd.
  append, with what is known of the block that comes out: it is the old one or a new one. Sources: a slice, a string, so many noughts. No statement about the program.
  Bytes turned to a string: the law for the walk. No statement about the program.
  What comes in, opened: from a reading of an argument as data to the predicates of the walks (bytes, rows of bytes, numbers, arrays of numbers). No statement about the program.
  What both the rows' texts and the disks' texts lean on: bytes.Clone, nil slices. No statement about the program.
  Regions that draw their order, in which a cell is read and then written: a read may be taken first, if the cell is as it was till the first write (operation k), and the write waits for the read. No statement about the program.
  Rows of bytes that the call owns, one block each; slices of slices. No statement about the program.
  How long what comes in can be: from the statement's own bound on each slice. No statement about the program.
-/
import Derived.Test.YthkbbcdnmdjhdaaGreatProg
import Derived.WalkKit
import Derived.KernelRfl
import Derived.WalkSpells
import Derived.WalkLawsBesides
import Derived.Handy
import Derived.Lib.Hide
import Derived.Deep.RegionWith
import Derived.Deep.AppendSrc
import Derived.ProofKit
import Derived.OpenShut
import Derived.Deep.Slices
import Derived.Lib.SmallJoins
import Derived.Lib.SliceRun
import Derived.OrdersHeld
import Derived.Deep.RegionHeld
import Derived.Handed
/-! XCore: Small facts used by all walks of this work: bit operations on naturals, bytes as values, 'a later world that kept all that was there' (Ext), rows of cells, and how they are carried on. No statement about the program. -/
namespace Go.Proofs.YthkbbcdnmdjhdaaGreat
open Go.RowKit

/-! ### bits -/
theorem ofInt_i64 (a : Nat) (ha : a < 9223372036854775808) : (BitVec.ofInt 64 (a : Int)).toNat = a := by
  rw [BitVec.ofInt_natCast, BitVec.toNat_ofNat]; exact Nat.mod_eq_of_lt (by omega)
theorem i64_xor_nat (a b : Nat) (ha : a < 9223372036854775808) (hb : b < 9223372036854775808) : bits .xor .i64 (a : Int) (b : Int) = ((a ^^^ b : Nat) : Int) := by
  have hx : a ^^^ b < 2 ^ 63 := Nat.xor_lt_two_pow (by omega) (by omega)
  show IntKind.i64.wrap ((BitVec.ofInt 64 (a : Int) ^^^ BitVec.ofInt 64 (b : Int)).toNat : Int) = _
  rw [BitVec.toNat_xor, ofInt_i64 a ha, ofInt_i64 b hb, IntKind.wrap_i64]
  omega
theorem i64_and_nat (a b : Nat) (ha : a < 9223372036854775808) (hb : b < 9223372036854775808) : bits .and .i64 (a : Int) (b : Int) = ((a &&& b : Nat) : Int) := by
  have hx : a &&& b < 2 ^ 63 := Nat.and_lt_two_pow _ (by omega)
  show IntKind.i64.wrap ((BitVec.ofInt 64 (a : Int) &&& BitVec.ofInt 64 (b : Int)).toNat : Int) = _
  rw [BitVec.toNat_and, ofInt_i64 a ha, ofInt_i64 b hb, IntKind.wrap_i64]
  omega

theorem ret_i {k : IntKind} {a b : Int} (h : a = b) : Ending.returned (.int k a) = .returned (.int k b) := by rw [h]
theorem ret_b {a b : Bool} (h : a = b) : Ending.returned (.bool a) = .returned (.bool b) := by rw [h]
theorem ret_ib {k : IntKind} {a b : Int} {c d : Bool} (h : a = b) (g : c = d) : Ending.returned (.tuple #[.int k a, .bool c]) = .returned (.tuple #[.int k b, .bool d]) := by rw [h, g]

/-! ### min, max of two numbers (to be given to the walk by 'attribute [local go_sem]') -/
theorem min_int2 (ats : Array TypeId) (ty : TypeId) (k k' : IntKind) (x y : Int) : Builtin.min_ ats ty #[.int k x, .int k' y] = pure (.int k (min x y)) := by
  simp only [Builtin.min_, List.foldlM_cons, List.foldlM_nil, Builtin.min2]
  by_cases h : y < x
  · rw [if_pos h, Int.min_eq_right (by omega)]; rfl
  · rw [if_neg h, Int.min_eq_left (by omega)]; rfl
theorem max_int2 (ats : Array TypeId) (ty : TypeId) (k k' : IntKind) (x y : Int) : Builtin.max_ ats ty #[.int k x, .int k' y] = pure (.int k (max x y)) := by
  simp only [Builtin.max_, List.foldlM_cons, List.foldlM_nil, Builtin.max2]
  by_cases h : y > x
  · rw [if_pos h, Int.max_eq_right (by omega)]; rfl
  · rw [if_neg h, Int.max_eq_left (by omega)]; rfl

/-! ### later worlds -/
/-- Nothing that was there has turned. -/
abbrev Ext (w w' : World) : Prop := Below w.heap.size w w'
theorem Ext.refl (w : World) : Ext w w := Below.refl _ _
theorem Ext.trans {a b c : World} (h : Ext a b) (k : Ext b c) : Ext a c := Below.trans h (k.mono h.size)
theorem Ext.cell {w w' : World} (h : Ext w w') {p : Addr} {v : Value} (hc : w.cell? p = some v) : w'.cell? p = some v :=
  (Below.cell h (World.block_lt_of_cell? w p hc)).trans hc
theorem Ext.unfrozen {w w' : World} (h : Ext w w') {p : Addr} {v : Value} (hc : w.cell? p = some v) (hf : w.frozen? p = false) : w'.frozen? p = false :=
  (Below.frozen h (World.block_lt_of_cell? w p hc)).trans hf
theorem Ext.blk {w w' : World} (h : Ext w w') {k : Nat} {o : Obj} (hc : w.heap[k]? = some o) : w'.heap[k]? = some o :=
  (h.block k (Array.getElem?_eq_some_iff.1 hc).1).trans hc
theorem Ext.of_drawn (w : World) (n : Nat) : Ext w (w.drewN n) := ⟨rfl, rfl, rfl, Nat.le_refl _, fun _ _ => rfl⟩
theorem Ext.of_eq {w w' : World} (h : w = w') : Ext w w' := h ▸ Ext.refl w

/-! ### rows of cells, block by block -/
/-- Block b is a row of just these cells, none of which a string shares. -/
def Row (w : World) (b : Nat) (e : TypeId) (cs : Array Value) : Prop := w.heap[b]? = some (.cells cs e (0, 0))
theorem Row.lt {w : World} {b : Nat} {e : TypeId} {cs : Array Value} (h : Row w b e cs) : b < w.heap.size := (Array.getElem?_eq_some_iff.1 h).1
theorem Row.cell {w : World} {b : Nat} {e : TypeId} {cs : Array Value} (h : Row w b e cs) {i : Nat} {v : Value} (hc : cs[i]? = some v) : w.cell? ⟨b, i, none⟩ = some v := by
  unfold Row at h; simp [World.cell?, h, hc]
theorem Row.unfrozen {w : World} {b : Nat} {e : TypeId} {cs : Array Value} (h : Row w b e cs) (i : Nat) : w.frozen? ⟨b, i, none⟩ = false := by
  unfold Row at h; simp [World.frozen?, h]
theorem Row.set {w : World} {b : Nat} {e : TypeId} {cs : Array Value} (h : Row w b e cs) (i : Nat) (v : Value) : Row (w.setCell ⟨b, i, none⟩ v) b e (cs.setIfInBounds i v) := by
  unfold Row at *; simp [World.setCell, Array.getElem?_modify, h]
theorem Row.set_ne {w : World} {b : Nat} {e : TypeId} {cs : Array Value} (h : Row w b e cs) {p : Addr} (hp : p.block ≠ b) (v : Value) : Row (w.setCell p v) b e cs := by
  unfold Row at *; simp [World.setCell, Array.getElem?_modify, h, hp]
theorem Row.drew {w : World} {b : Nat} {e : TypeId} {cs : Array Value} (h : Row w b e cs) : Row w.drew b e cs := h
theorem Row.drewN {w : World} {b : Nat} {e : TypeId} {cs : Array Value} (h : Row w b e cs) (n : Nat) : Row (w.drewN n) b e cs := h
theorem Row.new (w : World) (e : TypeId) (cs : Array Value) : Row (w.alloc (.cells cs e)) w.heap.size e cs := by
  unfold Row World.alloc; simp
theorem Row.new' (w : World) (e : TypeId) (cs : Array Value) {n : Nat} (h : n = w.heap.size) : Row (w.alloc (.cells cs e)) n e cs := h ▸ Row.new w e cs
theorem Row.alloc {w : World} {b : Nat} {e : TypeId} {cs : Array Value} (h : Row w b e cs) (o : Obj) : Row (w.alloc o) b e cs := by
  have := h.lt
  unfold Row World.alloc at *; simp only [Array.getElem?_push]; rw [if_neg (by omega)]; exact h
theorem Row.ext {w w' : World} {b : Nat} {e : TypeId} {cs : Array Value} (h : Row w b e cs) (hx : Ext w w') : Row w' b e cs := hx.blk h
theorem Row.below {w w' : World} {B b : Nat} {e : TypeId} {cs : Array Value} (h : Row w b e cs) (hx : Below B w w') (hb : b < B) : Row w' b e cs := (hx.block b hb).trans h

theorem make_row {P : Program} (t e : TypeId) (z : Value) (bytes n : Nat) (ht : P.underlying t = some (.slice e))
    (hi : (P.info? e).map (fun i => (i.zero, i.size, i.bytes)) = some (some z, 1, bytes)) (hz1 : z.cells = #[z]) (hb : bytes * n ≤ 281474976710656) (hn : n ≤ 9223372036854775807) (w : World) :
    (Instr.makeSlice t (.int .i64 (n : Int)) (.int .i64 (n : Int))).run P w = .ok (.slice (some ⟨w.heap.size, 0, none⟩) n n) (w.alloc (.cells (Array.replicate n z) e)) := by
  obtain ⟨i, hi, hz, hs, hby⟩ := info_parts hi
  have hb' : (i.bytes : Int) * (n : Int) ≤ 281474976710656 := by
    have h : ((i.bytes * n : Nat) : Int) ≤ 281474976710656 := by rw [hby]; omega
    rwa [Int.natCast_mul] at h
  rw [run_make (P := P) w t e i z ht hi hz .i64 .i64 n n (by omega) (by omega) hb' (by omega)]
  congr 4
  rw [hz1, hs, Nat.mul_one, Int.toNat_natCast]
  apply Array.ext
  · simp [madeCells]
  · intro k h1 h2
    simp [madeCells, Nat.mod_one]
end Go.Proofs.YthkbbcdnmdjhdaaGreat
/-! XGfPure: The field of 256 elements in plain Lean: doubling, the bitwise product, the tables of powers and logarithms, and the laws of a field. No program in sight. -/
namespace Go.Proofs.YthkbbcdnmdjhdaaGreat.Gf

def dbl (x : Nat) : Nat := if x < 128 then 2 * x else (2 * x) ^^^ 285
def E : List Nat := [1, 2, 4, 8, 16, 32, 64, 128, 29, 58, 116, 232, 205, 135, 19, 38, 76, 152, 45, 90, 180, 117, 234, 201, 143, 3, 6, 12, 24, 48, 96, 192, 157, 39, 78, 156, 37, 74, 148, 53, 106, 212, 181, 119, 238, 193, 159, 35, 70, 140, 5, 10, 20, 40, 80, 160, 93, 186, 105, 210, 185, 111, 222, 161, 95, 190, 97, 194, 153, 47, 94, 188, 101, 202, 137, 15, 30, 60, 120, 240, 253, 231, 211, 187, 107, 214, 177, 127, 254, 225, 223, 163, 91, 182, 113, 226, 217, 175, 67, 134, 17, 34, 68, 136, 13, 26, 52, 104, 208, 189, 103, 206, 129, 31, 62, 124, 248, 237, 199, 147, 59, 118, 236, 197, 151, 51, 102, 204, 133, 23, 46, 92, 184, 109, 218, 169, 79, 158, 33, 66, 132, 21, 42, 84, 168, 77, 154, 41, 82, 164, 85, 170, 73, 146, 57, 114, 228, 213, 183, 115, 230, 209, 191, 99, 198, 145, 63, 126, 252, 229, 215, 179, 123, 246, 241, 255, 227, 219, 171, 75, 150, 49, 98, 196, 149, 55, 110, 220, 165, 87, 174, 65, 130, 25, 50, 100, 200, 141, 7, 14, 28, 56, 112, 224, 221, 167, 83, 166, 81, 162, 89, 178, 121, 242, 249, 239, 195, 155, 43, 86, 172, 69, 138, 9, 18, 36, 72, 144, 61, 122, 244, 245, 247, 243, 251, 235, 203, 139, 11, 22, 44, 88, 176, 125, 250, 233, 207, 131, 27, 54, 108, 216, 173, 71, 142]
def L : List Nat := [0, 0, 1, 25, 2, 50, 26, 198, 3, 223, 51, 238, 27, 104, 199, 75, 4, 100, 224, 14, 52, 141, 239, 129, 28, 193, 105, 248, 200, 8, 76, 113, 5, 138, 101, 47, 225, 36, 15, 33, 53, 147, 142, 218, 240, 18, 130, 69, 29, 181, 194, 125, 106, 39, 249, 185, 201, 154, 9, 120, 77, 228, 114, 166, 6, 191, 139, 98, 102, 221, 48, 253, 226, 152, 37, 179, 16, 145, 34, 136, 54, 208, 148, 206, 143, 150, 219, 189, 241, 210, 19, 92, 131, 56, 70, 64, 30, 66, 182, 163, 195, 72, 126, 110, 107, 58, 40, 84, 250, 133, 186, 61, 202, 94, 155, 159, 10, 21, 121, 43, 78, 212, 229, 172, 115, 243, 167, 87, 7, 112, 192, 247, 140, 128, 99, 13, 103, 74, 222, 237, 49, 197, 254, 24, 227, 165, 153, 119, 38, 184, 180, 124, 17, 68, 146, 217, 35, 32, 137, 46, 55, 63, 209, 91, 149, 188, 207, 205, 144, 135, 151, 178, 220, 252, 190, 97, 242, 86, 211, 171, 20, 42, 93, 158, 132, 60, 57, 83, 71, 109, 65, 162, 31, 45, 67, 216, 183, 123, 164, 118, 196, 23, 73, 236, 127, 12, 111, 246, 108, 161, 59, 82, 41, 157, 85, 170, 251, 96, 134, 177, 187, 204, 62, 90, 203, 89, 95, 176, 156, 169, 160, 81, 11, 245, 22, 235, 122, 117, 44, 215, 79, 174, 213, 233, 230, 231, 173, 232, 116, 214, 244, 234, 168, 80, 88, 175]
def ex (n : Nat) : Nat := E.getD (n % 255) 0
def lg (a : Nat) : Nat := L.getD a 0

theorem dbl_lt (x : Nat) (h : x < 256) : dbl x < 256 := by
  revert x; decide +kernel
theorem E_dbl : ∀ i, i < 254 → E.getD (i + 1) 0 = dbl (E.getD i 0) := by decide +kernel
theorem E_wrap : dbl (E.getD 254 0) = E.getD 0 0 := by decide +kernel
theorem E_lt : ∀ i, i < 255 → E.getD i 0 < 256 ∧ 0 < E.getD i 0 := by decide +kernel
theorem E_L : ∀ a, a < 256 → a = 0 ∨ (L.getD a 0 < 255 ∧ E.getD (L.getD a 0) 0 = a) := by decide +kernel
theorem L_E : ∀ n, n < 255 → L.getD (E.getD n 0) 0 = n := by decide +kernel
theorem L_lt : ∀ a, a < 256 → L.getD a 0 < 255 := by decide +kernel

theorem ex_lt (n : Nat) : ex n < 256 := (E_lt _ (Nat.mod_lt _ (by decide))).1
theorem ex_pos (n : Nat) : 0 < ex n := (E_lt _ (Nat.mod_lt _ (by decide))).2
theorem ex_zero : ex 0 = 1 := by decide
theorem ex_succ (n : Nat) : ex (n + 1) = dbl (ex n) := by
  unfold ex
  by_cases h : n % 255 = 254
  · rw [h, show (n + 1) % 255 = 0 by omega, E_wrap]
  · rw [show (n + 1) % 255 = n % 255 + 1 by omega, E_dbl _ (by omega)]
theorem ex_mod (n : Nat) : ex (n % 255) = ex n := by unfold ex; rw [Nat.mod_mod]
theorem lg_lt (a : Nat) (h : a < 256) : lg a < 255 := L_lt a h
theorem ex_lg (a : Nat) (h : a < 256) (h0 : a ≠ 0) : ex (lg a) = a := by
  unfold ex lg
  rcases E_L a h with h1 | ⟨h1, h2⟩
  · exact absurd h1 h0
  · rw [Nat.mod_eq_of_lt h1, h2]
theorem lg_ex (n : Nat) : lg (ex n) = n % 255 := L_E _ (Nat.mod_lt _ (by decide))

theorem xor_lt (a b : Nat) (h : a < 256) (k : b < 256) : a ^^^ b < 256 := Nat.xor_lt_two_pow (n := 8) h k
theorem xlc (a b c : Nat) : a ^^^ (b ^^^ c) = b ^^^ (a ^^^ c) := by rw [← Nat.xor_assoc, Nat.xor_comm a b, Nat.xor_assoc]
theorem xrc (a b c : Nat) : (a ^^^ b) ^^^ c = (a ^^^ c) ^^^ b := by rw [Nat.xor_assoc, Nat.xor_comm b c, Nat.xor_assoc]
theorem two_xor (a b : Nat) : 2 * (a ^^^ b) = 2 * a ^^^ 2 * b := by
  have := Nat.shiftLeft_xor_distrib (a := a) (b := b) (i := 1)
  simpa [Nat.shiftLeft_eq, Nat.mul_comm] using this
theorem bit7 (a : Nat) (h : a < 256) : a.testBit 7 = decide (128 ≤ a) := by revert a; decide +kernel
theorem dbl_xor (a b : Nat) (h : a < 256) (k : b < 256) : dbl (a ^^^ b) = dbl a ^^^ dbl b := by
  have hx := bit7 _ (xor_lt a b h k)
  rw [Nat.testBit_xor, bit7 a h, bit7 b k] at hx
  unfold dbl
  rw [two_xor]
  by_cases ha : a < 128 <;> by_cases hb : b < 128
  · have e : a ^^^ b < 128 := by
      have : decide (128 ≤ a ^^^ b) = false := by rw [← hx]; simp; omega
      simp at this; omega
    rw [if_pos ha, if_pos hb, if_pos e]
  · have e : ¬ a ^^^ b < 128 := by
      have : decide (128 ≤ a ^^^ b) = true := by rw [← hx]; simp; omega
      simp at this; omega
    rw [if_pos ha, if_neg hb, if_neg e, Nat.xor_assoc]
  · have e : ¬ a ^^^ b < 128 := by
      have : decide (128 ≤ a ^^^ b) = true := by rw [← hx]; simp; omega
      simp at this; omega
    rw [if_neg ha, if_pos hb, if_neg e, xrc _ _ 285]
  · have e : a ^^^ b < 128 := by
      have : decide (128 ≤ a ^^^ b) = false := by rw [← hx]; simp; omega
      simp at this; omega
    rw [if_neg ha, if_neg hb, if_pos e]
    rw [Nat.xor_assoc, xlc 285, Nat.xor_self, Nat.xor_zero]

/-- The product, bit by bit of the second factor. -/
def gm : Nat → Nat → Nat → Nat
  | 0, _, _ => 0
  | k + 1, a, b => (if b % 2 = 1 then a else 0) ^^^ gm k (dbl a) (b / 2)
def gmul (a b : Nat) : Nat := gm 8 a b

theorem gm_lt : ∀ k a b, a < 256 → gm k a b < 256
  | 0, _, _, _ => by simp [gm]
  | k + 1, a, b, h => by
    unfold gm
    refine xor_lt _ _ ?_ (gm_lt k _ _ (dbl_lt a h))
    split <;> omega
theorem gmul_lt (a b : Nat) (h : a < 256) : gmul a b < 256 := gm_lt 8 a b h
theorem xor_zero_right (a : Nat) : a ^^^ 0 = a := Nat.xor_zero a
theorem xor4 (a b c d : Nat) : (a ^^^ b) ^^^ (c ^^^ d) = (a ^^^ c) ^^^ (b ^^^ d) := by
  rw [Nat.xor_assoc, Nat.xor_assoc, xlc b]
theorem dbl_zero : dbl 0 = 0 := by decide
theorem gm_dbl : ∀ k a b, a < 256 → gm k (dbl a) b = dbl (gm k a b)
  | 0, _, _, _ => by simp [gm, dbl_zero]
  | k + 1, a, b, h => by
    unfold gm
    rw [gm_dbl k (dbl a) (b / 2) (dbl_lt a h), dbl_xor _ _ (by split <;> omega) (gm_lt k _ _ (dbl_lt a h))]
    split <;> simp [dbl_zero]
theorem mod2_xor (b c : Nat) : (b ^^^ c) % 2 = (b % 2 + c % 2) % 2 := by
  have := Nat.testBit_xor b c 0
  simp only [Nat.testBit_zero] at this
  rcases Nat.mod_two_eq_zero_or_one b with h | h <;> rcases Nat.mod_two_eq_zero_or_one c with h' | h' <;> rcases Nat.mod_two_eq_zero_or_one (b ^^^ c) with h'' | h'' <;> simp_all
theorem div2_xor (b c : Nat) : (b ^^^ c) / 2 = b / 2 ^^^ c / 2 := by
  have := Nat.shiftRight_xor_distrib (a := b) (b := c) (i := 1)
  simpa [Nat.shiftRight_eq_div_pow] using this
theorem gm_xor_right : ∀ k a b c, gm k a (b ^^^ c) = gm k a b ^^^ gm k a c
  | 0, _, _, _ => by simp [gm]
  | k + 1, a, b, c => by
    unfold gm
    rw [div2_xor, gm_xor_right k, mod2_xor, xor4]
    congr 1
    rcases Nat.mod_two_eq_zero_or_one b with h | h <;> rcases Nat.mod_two_eq_zero_or_one c with h' | h' <;> simp [h, h']
theorem gm_xor_left : ∀ k a b c, a < 256 → b < 256 → gm k (a ^^^ b) c = gm k a c ^^^ gm k b c
  | 0, _, _, _, _, _ => by simp [gm]
  | k + 1, a, b, c, h, h' => by
    unfold gm
    rw [dbl_xor a b h h', gm_xor_left k _ _ _ (dbl_lt a h) (dbl_lt b h'), xor4]
    congr 1
    split <;> simp
theorem gmul_one_left : ∀ b, b < 256 → gmul 1 b = b := by decide +kernel
theorem gmul_ex (n b : Nat) (hb : b < 256) : gmul (ex n) b = Nat.repeat dbl n b := by
  induction n with
  | zero => rw [ex_zero, gmul_one_left b hb]; rfl
  | succ n ih =>
    rw [ex_succ]
    show gm 8 _ _ = dbl (Nat.repeat dbl n b)
    rw [gm_dbl 8 _ _ (ex_lt n)]
    congr 1
theorem repeat_ex (n m : Nat) : Nat.repeat dbl n (ex m) = ex (m + n) := by
  induction n with
  | zero => rfl
  | succ n ih =>
    show dbl (Nat.repeat dbl n (ex m)) = _
    rw [ih, ← ex_succ]; rfl
theorem gmul_ex_ex (n m : Nat) : gmul (ex n) (ex m) = ex (n + m) := by
  rw [gmul_ex n _ (ex_lt m), repeat_ex, Nat.add_comm]
theorem gmul_zero_left (b : Nat) : gmul 0 b = 0 := by
  have : ∀ k b, gm k 0 b = 0 := by
    intro k
    induction k with
    | zero => intro b; rfl
    | succ k ih => intro b; unfold gm; rw [dbl_zero, ih]; simp
  exact this 8 b
theorem gmul_zero_right (a : Nat) : gmul a 0 = 0 := by
  have : ∀ k a, gm k a 0 = 0 := by
    intro k
    induction k with
    | zero => intro b; rfl
    | succ k ih => intro b; unfold gm; simp [ih]
  exact this 8 a
theorem gmul_lg (a b : Nat) (h : a < 256) (k : b < 256) (h0 : a ≠ 0) (k0 : b ≠ 0) : gmul a b = ex (lg a + lg b) := by
  rw [← gmul_ex_ex, ex_lg a h h0, ex_lg b k k0]
theorem gmul_comm (a b : Nat) (h : a < 256) (k : b < 256) : gmul a b = gmul b a := by
  by_cases h0 : a = 0
  · subst h0; rw [gmul_zero_left, gmul_zero_right]
  by_cases k0 : b = 0
  · subst k0; rw [gmul_zero_left, gmul_zero_right]
  rw [gmul_lg a b h k h0 k0, gmul_lg b a k h k0 h0, Nat.add_comm]
theorem gmul_ne_zero (a b : Nat) (h : a < 256) (k : b < 256) (h0 : a ≠ 0) (k0 : b ≠ 0) : gmul a b ≠ 0 := by
  rw [gmul_lg a b h k h0 k0]; have := ex_pos (lg a + lg b); omega
theorem ex_add_mod (a b : Nat) : ex (a % 255 + b) = ex (a + b) := by unfold ex; rw [Nat.mod_add_mod]
theorem ex_add_mod' (a b : Nat) : ex (a + b % 255) = ex (a + b) := by unfold ex; rw [Nat.add_mod_mod]
theorem gmul_assoc (a b c : Nat) (h : a < 256) (k : b < 256) (l : c < 256) : gmul (gmul a b) c = gmul a (gmul b c) := by
  by_cases h0 : a = 0
  · subst h0; simp only [gmul_zero_left]
  by_cases k0 : b = 0
  · subst k0; simp only [gmul_zero_left, gmul_zero_right]
  by_cases l0 : c = 0
  · subst l0; simp only [gmul_zero_right]
  rw [gmul_lg _ c (gmul_lt a b h) l (gmul_ne_zero a b h k h0 k0) l0, gmul_lg a _ h (gmul_lt b c k) h0 (gmul_ne_zero b c k l k0 l0),
    gmul_lg a b h k h0 k0, gmul_lg b c k l k0 l0, lg_ex, lg_ex, ex_add_mod, ex_add_mod', Nat.add_assoc]
theorem gmul_xor (a b c : Nat) : gmul a (b ^^^ c) = gmul a b ^^^ gmul a c := gm_xor_right 8 a b c
theorem gmul_xor_left (a b c : Nat) (h : a < 256) (k : b < 256) : gmul (a ^^^ b) c = gmul a c ^^^ gmul b c := gm_xor_left 8 a b c h k
theorem gmul_one (a : Nat) (h : a < 256) : gmul a 1 = a := by rw [gmul_comm a 1 h (by decide), gmul_one_left a h]
end Go.Proofs.YthkbbcdnmdjhdaaGreat.Gf
/-! XGfA: Contracts of the field's functions that keep no table: doubling, the product bit by bit (the program's and the reference's), and the making of the table. -/
namespace Go.Proofs.YthkbbcdnmdjhdaaGreat
open Go.RowKit Gf

theorem dbl_bits (x : Nat) (h : x < 256) : bits .xor .i64 ((x : Int) * 2) 285 = (((2 * x) ^^^ 285 : Nat) : Int) := by
  have := i64_xor_nat (2 * x) 285 (by omega) (by decide)
  rw [← this]; congr 1; omega

theorem double_any (x : Nat) (h : x < 256) (w : World) :
    Calls Tryz.prog 149 #[.int .i64 x] w fun e w' => e = .returned (.int .i64 (dbl x : Nat)) ∧ w = w' := by
  by_cases c : x < 128
  · have hc : decide (256 ≤ (x : Int) * 2) = false := by simp; omega
    go_enter Tryz.func149, Tryz.ntmps149
    go_wp2
    go_ret
    refine ⟨?_, rfl⟩
    have : dbl x = 2 * x := by unfold dbl; rw [if_pos c]
    exact ret_i (by rw [this]; omega)
  · have hc : decide (256 ≤ (x : Int) * 2) = true := by simp; omega
    have hb := Lib.hid (dbl_bits x h)
    go_enter Tryz.func149, Tryz.ntmps149
    go_wp2
    go_ret
    refine ⟨?_, rfl⟩
    have : dbl x = (2 * x) ^^^ 285 := by unfold dbl; rw [if_neg c]
    exact ret_i (by rw [this, ← hb.out])

/-- What is left of the product. -/
theorem gm_step (k a b : Nat) : gm (k + 1) a b = (if b % 2 = 1 then a else 0) ^^^ gm k (dbl a) (b / 2) := rfl
theorem gm_zero_right (k a : Nat) : gm k a 0 = 0 := by
  induction k generalizing a with
  | zero => rfl
  | succ k ih => unfold gm; simp [ih]
theorem and_one (b : Nat) (h : b < 256) : bits .and .u8 (b : Int) 1 = ((b % 2 : Nat) : Int) := by
  have := u8_and_nat b 1 h (by decide)
  rw [Nat.and_one_is_mod] at this; exact this

theorem int_mod2 (b : Nat) : ((b : Int) % 2 = 1) ↔ b % 2 = 1 := by omega

set_option maxHeartbeats 400000 in
set_option maxHeartbeats 400000 in
set_option maxRecDepth 100000 in
theorem rmul_any (a b : Nat) (ha : a < 256) (hb : b < 256) (w : World) :
    Calls Tryz.prog 176 #[.int .u8 a, .int .u8 b] w fun e w' => e = .returned (.int .u8 (gmul a b : Nat)) ∧ w = w' := by
  go_enter Tryz.func176, Tryz.ntmps176
  go_wp2
  go_loop [5, 6, 7] (fun v5 v6 v7 => ∃ i x p : Nat, i ≤ 8 ∧ x < 256 ∧ p < 256 ∧ Hid (p ^^^ gm (8 - i) x (b / 2 ^ i) = gmul a b) ∧ v5 = .int .i64 x ∧ v6 = .int .i64 p ∧ v7 = .int .i64 i) (fun _ _ v7 => (8 - intOf v7).toNat)
  case atStart => exact ⟨0, a, 0, by omega, ha, by decide, Lib.hid (by unfold gmul; simp), by go_num, rfl, rfl⟩
  case round =>
    obtain ⟨i, x, p, h1, h3, h4, H, rfl, rfl, rfl⟩ := hrel
    by_cases hi : i = 8
    · subst hi
      go_wp2
      go_ret
      refine ⟨ret_i ?_, rfl⟩
      have := H.out
      simp only [Nat.sub_self, gm, Nat.xor_zero] at this
      rw [this]
    · have hi1 : (i : Int) < 8 := by omega
      have hs := H.out
      rw [show 8 - i = (7 - i) + 1 by omega, gm_step, Nat.div_div_eq_div_mul, ← Nat.pow_succ] at hs
      clear H
      have hd := dbl_lt x h3
      have hi8 : 8 - (i + 1) = 7 - i := by omega
      have hx := Lib.hid (i64_xor_nat p x (by omega) (by omega))
      have hpx := xor_lt p x h4 h3
      have e1 : (bits .and .u8 ((b : Int) / 2 ^ i) 1 == 1) = decide (b / 2 ^ i % 2 = 1) := by
        have := and_one (b / 2 ^ i) (Nat.lt_of_le_of_lt (Nat.div_le_self _ _) hb)
        rw [show ((b : Int) / 2 ^ i) = ((b / 2 ^ i : Nat) : Int) by simp, this]
        rcases Nat.mod_two_eq_zero_or_one (b / 2 ^ i) with h | h <;> rw [h] <;> rfl
      have e2 : x < 128 → dbl x = 2 * x := fun h => by unfold dbl; rw [if_pos h]
      have e3 : ¬ x < 128 → (dbl x : Int) = bits .xor .i64 ((x : Int) * 2) 285 := fun h => by rw [dbl_bits x h3]; unfold dbl; rw [if_neg h]
      have E2 := Lib.hid e2
      have E3 := Lib.hid e3
      clear e2 e3
      by_cases o : b / 2 ^ i % 2 = 1
      · have hq : (bits .and .u8 ((b : Int) / 2 ^ i) 1 == 1) = true := by rw [e1, decide_eq_true o]
        rw [if_pos o, ← Nat.xor_assoc, ← hi8] at hs
        have H := Lib.hid hs
        clear hs o e1 hi8
        go_wp2
        all_goals
          go_round
          case rel => exact ⟨i + 1, dbl x, p ^^^ x, by omega, hd, hpx, H, congrArg (Value.int .i64) (by first | (rw [E2.out (by omega)]; omega) | rw [E3.out (by omega)]), by rw [hx.out], by go_num⟩
          case measure => simp [intOf]; omega
      · have hq : (bits .and .u8 ((b : Int) / 2 ^ i) 1 == 1) = false := by rw [e1, decide_eq_false o]
        rw [if_neg o, Nat.zero_xor, ← hi8] at hs
        have H := Lib.hid hs
        clear hs o e1 hi8
        go_wp2
        all_goals
          go_round
          case rel => exact ⟨i + 1, dbl x, p, by omega, hd, h4, H, congrArg (Value.int .i64) (by first | (rw [E2.out (by omega)]; omega) | rw [E3.out (by omega)]), rfl, by go_num⟩
          case measure => simp [intOf]; omega
end Go.Proofs.YthkbbcdnmdjhdaaGreat
/-! XGfVec: Rows of bytes over the field, in plain Lean: a row to which a multiple of another is added. -/
namespace Go.Proofs.YthkbbcdnmdjhdaaGreat.Gf

def g8 (x y : UInt8) : UInt8 := UInt8.ofNat (gmul x.toNat y.toNat)
theorem u8lt (x : UInt8) : x.toNat < 256 := x.toNat_lt
theorem g8_toNat (x y : UInt8) : (g8 x y).toNat = gmul x.toNat y.toNat := by
  unfold g8
  rw [UInt8.toNat_ofNat']
  exact Nat.mod_eq_of_lt (gmul_lt _ _ (u8lt x))
/-- d, to which c times s is added. -/
def mad : List UInt8 → List UInt8 → UInt8 → List UInt8
  | [], _, _ => []
  | x :: d, [], _ => x :: d
  | x :: d, y :: s, c => (x ^^^ g8 y c) :: mad d s c
theorem mad_nil (d : List UInt8) (c : UInt8) : mad d [] c = d := by cases d <;> rfl
theorem mad_length : ∀ (d s : List UInt8) (c : UInt8), (mad d s c).length = d.length
  | [], _, _ => rfl
  | _ :: _, [], _ => rfl
  | _ :: d, _ :: s, c => by simp [mad, mad_length d s c]
theorem mad_get : ∀ (d s : List UInt8) (c : UInt8) (i : Nat), (mad d s c)[i]? = match d[i]?, s[i]? with
    | some x, some y => some (x ^^^ g8 y c)
    | some x, none => some x
    | none, _ => none
  | [], _, _, _ => rfl
  | x :: d, [], c, i => by cases h : (x :: d)[i]? <;> simp [mad, h]
  | x :: d, y :: s, c, 0 => rfl
  | x :: d, y :: s, c, i + 1 => by simpa [mad] using mad_get d s c i
theorem mad_take (d s : List UInt8) (c : UInt8) (i : Nat) (hd : i < d.length) (hs : i < s.length) :
    (mad d (s.take i) c)[i]? = some d[i] ∧ (mad d (s.take i) c).set i (d[i] ^^^ g8 s[i] c) = mad d (s.take (i + 1)) c := by
  have h1 : (mad d (s.take i) c)[i]? = some d[i] := by
    rw [mad_get, List.getElem?_eq_getElem hd, List.getElem?_take_eq_none (Nat.le_refl _)]
  refine ⟨h1, List.ext_getElem? fun j => ?_⟩
  rw [List.getElem?_set, mad_length]
  by_cases e : i = j
  · subst e
    rw [if_pos rfl, if_pos hd, mad_get, List.getElem?_eq_getElem hd, List.getElem?_take_of_lt (by omega), List.getElem?_eq_getElem hs]
  · rw [if_neg e, mad_get, mad_get]
    by_cases l : j < i
    · rw [List.getElem?_take_of_lt l, List.getElem?_take_of_lt (by omega)]
    · rw [List.getElem?_take_eq_none (by omega), List.getElem?_take_eq_none (by omega)]
theorem mad_long (d s : List UInt8) (c : UInt8) (i : Nat) (h : d.length ≤ i ∨ s.length ≤ i) : mad d (s.take i) c = mad d s c := by
  apply List.ext_getElem?
  intro j
  rw [mad_get, mad_get]
  by_cases l : j < i
  · rw [List.getElem?_take_of_lt l]
  · rcases h with h | h
    · rw [List.getElem?_eq_none (by omega : d.length ≤ j)]
    · rw [List.take_of_length_le h]
end Go.Proofs.YthkbbcdnmdjhdaaGreat.Gf
/-! XMem: Memory for the walks: a slice that reads as a list of cells (Cells, Bytes), a slice that the call owns (Own), append onto it, make. No statement about the program. -/
namespace Go.Proofs.YthkbbcdnmdjhdaaGreat
open Go.RowKit

/-- The slice value v reads, in w, as these cells. -/
def Cells (w : World) (v : Value) (cs : List Value) : Prop :=
  ∃ a cap, v = .slice a cs.length cap ∧ cs.length ≤ cap ∧ (a = none → cap = 0) ∧ ∀ j u, cs[j]? = some u → ∃ ad : Addr, a = some ad ∧ w.cell? (ad.add j) = some u
theorem Cells.nil (w : World) : Cells w (.slice none 0 0) [] := ⟨none, 0, rfl, Nat.le_refl _, fun _ => rfl, by simp⟩
theorem Cells.ext {w w' : World} {v : Value} {cs : List Value} (h : Cells w v cs) (hx : Ext w w') : Cells w' v cs := by
  obtain ⟨a, cap, e, hl, hn, hc⟩ := h
  exact ⟨a, cap, e, hl, hn, fun j u hu => let ⟨ad, h1, h2⟩ := hc j u hu; ⟨ad, h1, hx.cell h2⟩⟩
theorem addr_plain {w : World} {ad : Addr} {u : Value} (h : w.cell? ad = some u) : ad = ⟨ad.block, ad.off, none⟩ := by
  obtain ⟨b, o, s⟩ := ad
  cases s with
  | none => rfl
  | some x =>
    unfold World.cell? at h
    split at h <;> simp at h
/-- Nil or empty, or an address. -/
theorem Cells.forms {w : World} {v : Value} {cs : List Value} (h : Cells w v cs) :
    (cs = [] ∧ ∃ a cap, v = .slice a 0 cap) ∨ (cs ≠ [] ∧ ∃ b o cap, v = .slice (some ⟨b, o, none⟩) cs.length cap ∧ cs.length ≤ cap ∧ ∀ j u, cs[j]? = some u → w.cell? ⟨b, o + j, none⟩ = some u) := by
  obtain ⟨a, cap, e, hl, hn, hc⟩ := h
  by_cases h0 : cs = []
  · subst h0; exact .inl ⟨rfl, a, cap, e⟩
  · refine .inr ⟨h0, ?_⟩
    obtain ⟨u, hu⟩ : ∃ u, cs[0]? = some u := by
      cases cs with
      | nil => exact absurd rfl h0
      | cons x l => exact ⟨x, rfl⟩
    obtain ⟨ad, rfl, h2⟩ := hc 0 u hu
    have hp := addr_plain h2
    have hz : ad.add 0 = ad := by simp [Addr.add]
    rw [hz] at hp
    refine ⟨ad.block, ad.off, cap, by rw [e]; exact congrArg (fun x => Value.slice (some x) cs.length cap) hp, hl, fun j u hu => ?_⟩
    obtain ⟨ad', h1, h3⟩ := hc j u hu
    obtain rfl := Option.some.inj h1
    rw [← Addr.add_lit, ← hp]; exact h3

/-- Where there is a cell there is an address. -/
theorem Cells.at {w : World} {a : Option Addr} {n cap : Nat} {cs : List Value} (h : Cells w (.slice a n cap) cs) {j : Nat} {u : Value} (hu : cs[j]? = some u) :
    ∃ b o, a = some ⟨b, o, none⟩ ∧ w.cell? ⟨b, o + j, none⟩ = some u := by
  rcases h.forms with ⟨rfl, _⟩ | ⟨_, b, o, cap', e, _, hc⟩
  · simp at hu
  · simp only [Value.slice.injEq] at e
    exact ⟨b, o, e.1, hc j u hu⟩

/-- A byte as a value. -/
abbrev bv (x : UInt8) : Value := .int .u8 (x.toNat : Int)
abbrev bvs (l : List UInt8) : List Value := l.map bv
abbrev Bytes (w : World) (v : Value) (l : List UInt8) : Prop := Cells w v (bvs l)
theorem bvs_get {l : List UInt8} {j : Nat} (h : j < l.length) : (bvs l)[j]? = some (bv l[j]) := by simp [h]
theorem bvs_one (l : List UInt8) : ∀ u ∈ bvs l, u.oneCell' = true := by
  intro u hu
  obtain ⟨_, _, rfl⟩ := List.mem_map.1 hu
  rfl
theorem bvs_len (l : List UInt8) : (bvs l).length = l.length := List.length_map _
theorem bvs_append (l k : List UInt8) : bvs (l ++ k) = bvs l ++ bvs k := List.map_append
theorem bvs_inj {l k : List UInt8} (h : bvs l = bvs k) : l = k := by
  refine List.map_inj_right ?_ |>.1 h
  intro x y hxy
  have hi : ((x.toNat : Nat) : Int) = ((y.toNat : Nat) : Int) := by injection hxy
  exact UInt8.toNat_inj.1 (by omega)

/-- The slice value v is nil and empty, or owns from its head on a row in a block from B on that begins with these cells. -/
abbrev Own (w : World) (B : Nat) (e : TypeId) (v : Value) (cs : List Value) : Prop := w.ownsRow B e 1 v cs.length cs
theorem Own.forms {w : World} {B : Nat} {e : TypeId} {v : Value} {cs : List Value} (h : Own w B e v cs) :
    (v = .slice none 0 0 ∧ cs = []) ∨ ∃ g cap cur, v = .slice (some ⟨g, 0, none⟩) cs.length cap ∧ B ≤ g ∧ Row w g e cur ∧ cs.length ≤ cap ∧ cur.size = cap ∧ cur.toList.take cs.length = cs ∧ cap ≤ maxLen := by
  rcases h.2 with ⟨h1, h2⟩ | ⟨g, cap, cur, h1, h2, h3, h4, h5, h6, h7⟩
  · exact .inl ⟨h1, List.eq_nil_of_length_eq_zero h2⟩
  · exact .inr ⟨g, cap, cur, h1, h2, h3, h4, by omega, by rwa [Nat.mul_one] at h7, h5⟩
theorem Own.mk {w : World} {B g cap : Nat} {e : TypeId} {cs : List Value} {cur : Array Value} (h2 : B ≤ g) (h3 : Row w g e cur) (h4 : cs.length ≤ cap) (h6 : cur.size = cap) (h7 : cur.toList.take cs.length = cs) (h5 : cap ≤ maxLen) :
    Own w B e (.slice (some ⟨g, 0, none⟩) cs.length cap) cs :=
  ⟨by omega, .inr ⟨g, cap, cur, rfl, h2, h3, h4, h5, by omega, by rwa [Nat.mul_one]⟩⟩
theorem Own.cells {w : World} {B : Nat} {e : TypeId} {v : Value} {cs : List Value} (h : Own w B e v cs) : Cells w v cs := by
  rcases h.forms with ⟨rfl, rfl⟩ | ⟨g, cap, cur, rfl, _, hr, hl, hs, ht, _⟩
  · exact Cells.nil w
  · refine ⟨_, _, rfl, hl, (fun h => by cases h), fun j u hu => ⟨_, rfl, ?_⟩⟩
    rw [Addr.add_lit, Nat.zero_add]
    refine hr.cell ?_
    rw [← ht, List.getElem?_take] at hu
    split at hu
    · simpa using hu
    · cases hu
theorem Own.ext {w w' : World} {B : Nat} {e : TypeId} {v : Value} {cs : List Value} (h : Own w B e v cs) (hx : Ext w w') : Own w' B e v cs := by
  rcases h.forms with ⟨rfl, rfl⟩ | ⟨g, cap, cur, rfl, h2, hr, hl, hs, ht, h5⟩
  · exact World.ownsRow_nil _ _ _ _
  · exact Own.mk h2 (hr.ext hx) hl hs ht h5
theorem Own.mono {w : World} {B B' : Nat} {e : TypeId} {v : Value} {cs : List Value} (h : Own w B e v cs) (hB : B' ≤ B) : Own w B' e v cs := by
  rcases h.forms with ⟨rfl, rfl⟩ | ⟨g, cap, cur, rfl, h2, hr, hl, hs, ht, h5⟩
  · exact World.ownsRow_nil _ _ _ _
  · exact Own.mk (by omega) hr hl hs ht h5
theorem Own.nil (w : World) (B : Nat) (e : TypeId) : Own w B e (.slice none 0 0) [] := World.ownsRow_nil _ _ _ _
/-- One cell written. -/
theorem Own.set {w : World} {B g n cap : Nat} {e : TypeId} {cs : List Value} (h : Own w B e (.slice (some ⟨g, 0, none⟩) n cap) cs) (i : Nat) (u : Value) :
    Own (w.setCell ⟨g, i, none⟩ u) B e (.slice (some ⟨g, 0, none⟩) n cap) (cs.set i u) := by
  rcases h.forms with ⟨h1, rfl⟩ | ⟨g', cap', cur, h1, h2, hr, hl, hs, ht, h5⟩
  · cases h1
  · simp only [Value.slice.injEq, Option.some.injEq, Addr.mk.injEq, and_true] at h1
    obtain ⟨rfl, rfl, rfl⟩ := h1
    have := Own.mk (cs := cs.set i u) h2 (hr.set i u) (by simpa using hl) (by simpa using hs) ?_ h5
    · simpa using this
    · simp only [Array.toList_setIfInBounds, List.length_set]
      rw [List.take_set, ht]
theorem Own.parts {w : World} {B g n cap : Nat} {e : TypeId} {cs : List Value} (h : Own w B e (.slice (some ⟨g, 0, none⟩) n cap) cs) :
    n = cs.length ∧ B ≤ g ∧ g < w.heap.size ∧ cs.length ≤ cap ∧ cap ≤ maxLen ∧ (∀ i u, cs[i]? = some u → w.cell? ⟨g, i, none⟩ = some u) ∧ ∀ i, w.frozen? ⟨g, i, none⟩ = false := by
  have hc := h.cells
  rcases h.forms with ⟨h1, rfl⟩ | ⟨g', cap', cur, h1, h2, hr, hl, hs, ht, h5⟩
  · cases h1
  · simp only [Value.slice.injEq, Option.some.injEq, Addr.mk.injEq, and_true] at h1
    obtain ⟨rfl, rfl, rfl⟩ := h1
    refine ⟨rfl, h2, hr.lt, hl, h5, fun i u hu => ?_, fun i => hr.unfrozen i⟩
    obtain ⟨a, cap, e1, _, _, h3⟩ := hc
    simp only [Value.slice.injEq] at e1
    obtain ⟨rfl, -, -⟩ := e1
    obtain ⟨ad, h4, h6⟩ := h3 i u hu
    obtain rfl := Option.some.inj h4
    rwa [Addr.add_lit, Nat.zero_add] at h6
theorem Own.new (w : World) (B : Nat) (e : TypeId) (cs : Array Value) (hB : B ≤ w.heap.size) (hm : cs.size ≤ maxLen) :
    Own (w.alloc (.cells cs e)) B e (.slice (some ⟨w.heap.size, 0, none⟩) cs.size cs.size) cs.toList := by
  have := Own.mk (w := w.alloc (.cells cs e)) (B := B) (cs := cs.toList) (cap := cs.size) hB (Row.new w e cs) (by simp) rfl (by rw [List.take_of_length_le (Nat.le_refl _)]) hm
  simpa using this
theorem Ext.grown {w w' : World} {row : Option Nat} (h : w.grownBy w' row) (hr : ∀ k, row = some k → w.heap.size ≤ k) : Ext w w' :=
  (Below.refl _ w).grown h (Nat.le_refl _) hr
theorem Below.grown' {B : Nat} {a w w' : World} {row : Option Nat} (h : Below B a w) (hg : w.grownBy w' row) (hB : B ≤ w.heap.size) (hr : ∀ k, row = some k → B ≤ k) : Below B a w' := h.grown hg hB hr
theorem Own.block {w : World} {B : Nat} {e : TypeId} {v : Value} {cs : List Value} (h : Own w B e v cs) : ∀ k, v.ownBlock = some k → B ≤ k := fun k hk => (World.ownsRow.lt h k hk).1

/-- append(v, xs...), v the call's own. -/
theorem run_app {P : Program} (w : World) (t ty e : TypeId) (z : Value) (bytes : Nat) (ht : P.underlying t = some (.slice e))
    (hi : (P.info? e).map (fun i => (i.zero, i.size, i.bytes)) = some (some z, 1, bytes)) (hz : z.cells = #[z])
    {B : Nat} {v : Value} {cs : List Value} (hown : Own w B e v cs) {x : Value} {news : List Value} (hx : Cells w x news) (h1 : ∀ u ∈ news, u.oneCell' = true)
    (hm : cs.length + news.length ≤ maxLen) (hb : (cs.length + news.length) * bytes ≤ 140737488355328) (hB : B ≤ w.heap.size) :
    ∃ v' w', (Builtin.append_ #[t, t] ty #[v, x]).run P w = .ok v' w' ∧ Own w' B e v' (cs ++ news) ∧ w.grownBy w' v.ownBlock ∧ (v' = .slice none 0 0 ↔ v = .slice none 0 0 ∧ news = []) := by
  obtain ⟨i, hi, hzz, hs, hby⟩ := info_parts hi
  obtain ⟨a, cap, rfl, hl, hnone, hc⟩ := hx
  have hlen : cs.length + news.length = (cs ++ news).length := by simp
  cases a with
  | none =>
    obtain rfl := hnone rfl
    have : news = [] := by
      cases news with
      | nil => rfl
      | cons u l => obtain ⟨ad, h, _⟩ := hc 0 u rfl; cases h
    subst this
    have hr := run_append_owned_none (P := P) (w := w) B t ty e i 1 ht hi v cs.length cs hown
    exact ⟨v, w, hr, by simpa using hown, ⟨rfl, rfl, rfl, Nat.le_refl _, fun _ _ _ => rfl⟩, by simp⟩
  | some ad =>
    obtain ⟨v', w', h2, h3, h4, h5⟩ := run_append_own (P := P) w B t ty e i z 1 bytes ht hi hzz hs hby (by rw [hz]; rfl) (by decide) v cs.length cs hown ad news.length cap news (by simp)
      (fun j u hu => by obtain ⟨ad', e1, e2⟩ := hc j u hu; obtain rfl := Option.some.inj e1; exact e2) h1 hm hb hB
    refine ⟨v', w', h2, by rw [hlen] at h3; exact h3, h4, ?_⟩
    rw [h5]; simp
theorem wpList_app {P : Program} {w : World} {ops : Array Oper} {rest : List Oper} {o : Oper} {a : Act} {Q : Exit → Act → World → Prop} (hg : o.guard = none) (s x : Operand)
    (t e : TypeId) (z : Value) (bytes : Nat) (ho : o.op = .call { callee := .builtin .append, args := #[s, x], argTypes := #[t, t] }) (ht : P.underlying t = some (.slice e))
    (hi : (P.info? e).map (fun i => (i.zero, i.size, i.bytes)) = some (some z, 1, bytes)) (hz : z.cells = #[z])
    {B : Nat} {v : Value} {cs : List Value} (hs : a.eval s = v) (hown : Own w B e v cs) {xv : Value} {news : List Value} (hxv : a.eval x = xv) (hx : Cells w xv news) (h1 : ∀ u ∈ news, u.oneCell' = true)
    (hm : cs.length + news.length ≤ maxLen) (hb : (cs.length + news.length) * bytes ≤ 140737488355328) (hB : B ≤ w.heap.size)
    (hK : ∀ v' w', Own w' B e v' (cs ++ news) → w.grownBy w' v.ownBlock → (v' = .slice none 0 0 ↔ v = .slice none 0 0 ∧ news = []) → wpList P ops Q rest (a.put o.dst v') w') : wpList P ops Q (o :: rest) a w := by
  obtain ⟨v', w', h2, h3, h4, h5⟩ := run_app (P := P) w t o.type e z bytes ht hi hz hown hx h1 hm hb hB
  refine wpList_plain hg fun K hK' => ?_
  unfold Oper.wp execOp
  simp only [ho, resolve, invoke, builtin, Sem.run_bind, Sem.run_pure, Result.andThen_ok, List.map_toArray, List.map_cons, List.map_nil, hs, hxv, h2]
  exact hK' _ _ (hK v' w' h3 h4 h5)

/-- append(v, xs...) where something comes out: the value written out, its length and its cells as the walk wants them spelt. -/
theorem wpList_app_some {P : Program} {w : World} {ops : Array Oper} {rest : List Oper} {o : Oper} {a : Act} {Q : Exit → Act → World → Prop} (hg : o.guard = none) (s x : Operand)
    (t e : TypeId) (z : Value) (bytes : Nat) (ho : o.op = .call { callee := .builtin .append, args := #[s, x], argTypes := #[t, t] }) (ht : P.underlying t = some (.slice e))
    (hi : (P.info? e).map (fun i => (i.zero, i.size, i.bytes)) = some (some z, 1, bytes)) (hz : z.cells = #[z])
    {B : Nat} {v : Value} {cs : List Value} (hs : a.eval s = v) (hown : Own w B e v cs) {xv : Value} {news : List Value} (hxv : a.eval x = xv) (hx : Cells w xv news) (h1 : ∀ u ∈ news, u.oneCell' = true)
    (hm : cs.length + news.length ≤ maxLen) (hb : (cs.length + news.length) * bytes ≤ 140737488355328) (hB : B ≤ w.heap.size)
    (N : Nat) (hN : N = cs.length + news.length) (out : List Value) (hout : out = cs ++ news) (hpos : 0 < N)
    (hK : ∀ g cap w', Own w' B e (.slice (some ⟨g, 0, none⟩) N cap) out → w.grownBy w' v.ownBlock → wpList P ops Q rest (a.put o.dst (.slice (some ⟨g, 0, none⟩) N cap)) w') : wpList P ops Q (o :: rest) a w := by
  refine wpList_app hg s x t e z bytes ho ht hi hz hs hown hxv hx h1 hm hb hB fun v' w' h2 h3 _ => ?_
  subst hout hN
  rcases h2.forms with ⟨_, h5⟩ | ⟨g, cap, cur, e1, h⟩
  · have : (cs ++ news).length = 0 := by rw [h5]; rfl
    rw [List.length_append] at this; omega
  · rw [List.length_append] at e1
    rw [e1] at h2 ⊢
    exact hK g cap w' h2 h3
theorem wpList_app_none {P : Program} {w : World} {ops : Array Oper} {rest : List Oper} {o : Oper} {a : Act} {Q : Exit → Act → World → Prop} (hg : o.guard = none) (s x : Operand)
    (t e : TypeId) (z : Value) (bytes : Nat) (ho : o.op = .call { callee := .builtin .append, args := #[s, x], argTypes := #[t, t] }) (ht : P.underlying t = some (.slice e))
    (hi : (P.info? e).map (fun i => (i.zero, i.size, i.bytes)) = some (some z, 1, bytes)) (hz : z.cells = #[z])
    (hs : a.eval s = .slice none 0 0) {xv : Value} (hxv : a.eval x = xv) (hx : Cells w xv [])
    (hK : ∀ w', w.grownBy w' none → wpList P ops Q rest (a.put o.dst (.slice none 0 0)) w') : wpList P ops Q (o :: rest) a w := by
  refine wpList_app hg s x t e z bytes ho ht hi hz hs (Own.nil w 0 e) hxv hx (by simp) (by simp [maxLen]) (by simp) (Nat.zero_le _) fun v' w' _ h3 h4 => ?_
  obtain rfl := h4.2 ⟨rfl, rfl⟩
  exact hK w' h3

/-! ### what comes in -/
theorem u8_of_wf {a : Int} (h : (Lit.int .u8 a).wf = true) : ∃ x : UInt8, a = (x.toNat : Int) := by
  have hb : 0 ≤ a ∧ a ≤ 255 := by
    simp [Lit.wf] at h
    constructor
    · exact h.1
    · have := h.2
      simpa [IntKind.max, IntKind.signed, IntKind.bits] using this
  refine ⟨UInt8.ofNat a.toNat, ?_⟩
  rw [UInt8.toNat_ofNat']
  omega
theorem bytes_of_row {w : World} {a : Option Addr} {len cap : Nat} {zs : List Int}
    (h : (a = none ∧ len = 0 ∧ cap = 0 ∧ zs = []) ∨ ∃ x, a = some x ∧ len ≤ cap ∧ cap ≤ maxLen ∧ zs.length = cap ∧ (∀ i, i < zs.length → w.cell? (x.add i) = some (.int .u8 (zs.getD i 0))) ∧ ∀ n ∈ zs, (Lit.int .u8 n).wf = true) :
    ∃ l : List UInt8, l.length = len ∧ Bytes w (.slice a len cap) l := by
  rcases h with ⟨rfl, rfl, rfl, rfl⟩ | ⟨x, rfl, h1, _, h3, h4, h5⟩
  · exact ⟨[], rfl, Cells.nil w⟩
  · have hl : ((zs.take len).map fun z => UInt8.ofNat z.toNat).length = len := by rw [List.length_map, List.length_take]; omega
    refine ⟨(zs.take len).map fun z => UInt8.ofNat z.toNat, hl, some x, cap, by rw [bvs_len, hl], by rw [bvs_len, hl]; exact h1, (fun h => by cases h), fun j u hu => ⟨x, rfl, ?_⟩⟩
    have hj : j < len := by
      have := (List.getElem?_eq_some_iff.1 hu).1
      rwa [bvs_len, hl] at this
    rw [h4 j (by omega)]
    have e : (zs.getD j 0) = zs[j]'(by omega) := by rw [List.getD_eq_getElem?_getD, List.getElem?_eq_getElem (by omega : j < zs.length)]; rfl
    obtain ⟨y, hy⟩ := u8_of_wf (h5 _ (List.getElem_mem (by omega : j < zs.length)))
    rw [List.getElem?_map, List.getElem?_map, List.getElem?_take_of_lt hj, List.getElem?_eq_getElem (by omega : j < zs.length)] at hu
    simp only [Option.map_some, Option.some.injEq] at hu
    rw [← hu, e, hy]
    simp
end Go.Proofs.YthkbbcdnmdjhdaaGreat
/-! XGfB: gf.New: the table that is made holds all powers of two and all logarithms. -/
namespace Go.Proofs.YthkbbcdnmdjhdaaGreat
open Go.RowKit Gf

theorem info_u8 : (Tryz.prog.info? 5).map (fun i => (i.zero, i.size, i.bytes)) = some (some (.int .u8 0), 1, 1) := by kernel_rfl
theorem info_int : (Tryz.prog.info? 3).map (fun i => (i.zero, i.size, i.bytes)) = some (some (.int .i64 0), 1, 8) := by kernel_rfl

/-- The row of powers when n are known; the row of logarithms. -/
def expA (n : Nat) : Array Value := (Array.range 255).map fun i => .int .u8 ((if i < n then ex i else 0 : Nat) : Int)
def lgN : Nat → Nat → Nat
  | 0, _ => 0
  | n + 1, a => if a = ex n then n else lgN n a
def lgA (n : Nat) : Array Value := (Array.range 256).map fun a => .int .i64 ((lgN n a : Nat) : Int)

/-- A table lies at block b. -/
def TableAt (w : World) (b : Nat) : Prop :=
  ∃ be bl, Row w b 249 #[.slice (some ⟨be, 0, none⟩) 255 255, .slice (some ⟨bl, 0, none⟩) 256 256] ∧ Row w be 5 (expA 255) ∧ Row w bl 3 (lgA 255)
theorem TableAt.ext {w w' : World} {b : Nat} (h : TableAt w b) (hx : Ext w w') : TableAt w' b := by
  obtain ⟨be, bl, h1, h2, h3⟩ := h
  exact ⟨be, bl, h1.ext hx, h2.ext hx, h3.ext hx⟩

theorem expA_get (n i : Nat) (h : i < 255) : (expA n)[i]? = some (.int .u8 ((if i < n then ex i else 0 : Nat) : Int)) := by simp [expA, h]
theorem lgA_get (n i : Nat) (h : i < 256) : (lgA n)[i]? = some (.int .i64 ((lgN n i : Nat) : Int)) := by simp [lgA, h]
theorem expA_zero : expA 0 = Array.replicate 255 (.int .u8 0) := by
  apply Array.ext
  · simp [expA]
  · intro i h1 h2; simp [expA]
theorem lgA_zero : lgA 0 = Array.replicate 256 (.int .i64 0) := by
  apply Array.ext
  · simp [lgA]
  · intro i h1 h2; simp [lgA, lgN]
theorem expA_size (n : Nat) : (expA n).size = 255 := by simp [expA]
theorem lgA_size (n : Nat) : (lgA n).size = 256 := by simp [lgA]
theorem expA_set (n : Nat) : (expA n).setIfInBounds n (.int .u8 ((ex n : Nat) : Int)) = expA (n + 1) := by
  apply Array.ext_getElem?
  intro i
  rw [Array.getElem?_setIfInBounds, expA_size]
  by_cases hi : i < 255
  · rw [expA_get n i hi, expA_get (n + 1) i hi]
    by_cases e : n = i
    · subst e; simp [hi]
    · rw [if_neg e]
      by_cases l : i < n
      · rw [if_pos l, if_pos (by omega)]
      · rw [if_neg l, if_neg (by omega)]
  · rw [Array.getElem?_eq_none (by rw [expA_size]; omega), Array.getElem?_eq_none (by rw [expA_size]; omega)]
    simp; omega
theorem lgA_set (n : Nat) : (lgA n).setIfInBounds (ex n) (.int .i64 (n : Int)) = lgA (n + 1) := by
  apply Array.ext_getElem?
  intro i
  rw [Array.getElem?_setIfInBounds, lgA_size]
  by_cases hi : i < 256
  · rw [lgA_get n i hi, lgA_get (n + 1) i hi]
    unfold lgN
    by_cases e : ex n = i
    · rw [if_pos e, if_pos (by omega), if_pos e.symm]
    · rw [if_neg e, if_neg (fun h => e h.symm)]
      cases n <;> rfl
  · rw [Array.getElem?_eq_none (by rw [lgA_size]; omega), Array.getElem?_eq_none (by rw [lgA_size]; omega)]
    simp; omega
theorem lgN_eq : ∀ n a, n ≤ 255 → a < 256 → lgN n a = if a ≠ 0 ∧ lg a < n then lg a else 0
  | 0, a, _, _ => by simp [lgN]
  | n + 1, a, h, ha => by
    unfold lgN
    by_cases e : a = ex n
    · have := lg_ex n
      rw [Nat.mod_eq_of_lt (by omega)] at this
      have hp := ex_pos n
      rw [if_pos e, e, this, if_pos ⟨by omega, by omega⟩]
    · rw [if_neg e, lgN_eq n a (by omega) ha]
      by_cases z : a = 0
      · simp [z]
      · have hl : lg a ≠ n := fun h' => e (by rw [← h', ex_lg a ha z])
        by_cases l : lg a < n
        · rw [if_pos ⟨z, l⟩, if_pos ⟨z, by omega⟩]
        · rw [if_neg (fun h => l h.2), if_neg (fun h => by omega)]
theorem lgN_255 (a : Nat) (h : a < 256) : lgN 255 a = lg a := by
  rw [lgN_eq 255 a (by omega) h]
  by_cases z : a = 0
  · subst z; rfl
  · rw [if_pos ⟨z, lg_lt a h⟩]

set_option maxHeartbeats 800000 in
set_option maxRecDepth 100000 in
theorem new_any (w : World) :
    Calls Tryz.prog 124 #[] w fun e w' => ∃ b, w.heap.size ≤ b ∧ e = .returned (.pointer (some ⟨b, 0, none⟩)) ∧ TableAt w' b ∧ Ext w w' := by
  have hm1 : ∀ w, (Instr.makeSlice 24 (.int .i64 255) (.int .i64 255)).run Tryz.prog w = .ok (.slice (some ⟨w.heap.size, 0, none⟩) 255 255) (w.alloc (.cells (expA 0) 5)) := by
    rw [expA_zero]; exact make_row (P := Tryz.prog) 24 5 (.int .u8 0) 1 255 Tryz.underlying24 info_u8 rfl (by decide) (by decide)
  have hm2 : ∀ w, (Instr.makeSlice 28 (.int .i64 256) (.int .i64 256)).run Tryz.prog w = .ok (.slice (some ⟨w.heap.size, 0, none⟩) 256 256) (w.alloc (.cells (lgA 0) 3)) := by
    rw [lgA_zero]; exact make_row (P := Tryz.prog) 28 3 (.int .i64 0) 8 256 Tryz.underlying28 info_int rfl (by decide) (by decide)
  go_enter Tryz.func124, Tryz.ntmps124
  go_wp2
  go_region
  all_goals
    go_wp2
    go_loopw [2, 8] (fun v2 v8 wr => ∃ n be bl : Nat, n ≤ 255 ∧ w.heap.size ≤ be ∧ w.heap.size ≤ bl ∧ be < w.heap.size + 2 ∧ bl < w.heap.size + 2 ∧ be ≠ bl ∧ Hid (Row wr (w.heap.size + 2) 249 #[.slice (some ⟨be, 0, none⟩) 255 255, .slice (some ⟨bl, 0, none⟩) 256 256]) ∧ Hid (Row wr be 5 (expA n)) ∧ Hid (Row wr bl 3 (lgA n)) ∧ Below w.heap.size w wr ∧ v2 = .int .i64 (ex n : Nat) ∧ v8 = .int .i64 n) (fun _ v8 _ => (255 - intOf v8).toNat)
    case atStart =>
      refine ⟨0, ?_⟩
      first
        | exact ⟨w.heap.size, w.heap.size + 1, by omega, by omega, by omega, by omega, by omega, by omega, (Row.new' _ _ _ (by simp)).drew, ((Row.new' w _ _ rfl).alloc _).alloc _, (Row.new' _ _ _ (by simp)).alloc _, by go_grown, by rfl, by rfl⟩
        | exact ⟨w.heap.size + 1, w.heap.size, by omega, by omega, by omega, by omega, by omega, by omega, (Row.new' _ _ _ (by simp)).drew, (Row.new' _ _ _ (by simp)).alloc _, ((Row.new' w _ _ rfl).alloc _).alloc _, by go_grown, by rfl, by rfl⟩
    case round =>
      obtain ⟨n, be, bl, hn, h1, h2, h3, h4, h5, R0, R1, R2, hB, rfl, rfl⟩ := hrel
      have hx := ex_lt n
      by_cases hlt : n < 255
      · have c0 := R0.out.cell (i := 0) rfl
        have c1 := R0.out.cell (i := 1) rfl
        have c2 := R1.out.cell (expA_get n n hlt)
        have c3 := R2.out.cell (lgA_get n (ex n) hx)
        have u2 := R1.out.unfrozen n
        have u3 := R2.out.unfrozen (ex n)
        have hl1 : (n : Int) < 255 := by omega
        have hl2 : (ex n : Int) < 256 := by omega
        go_wp2
        go_region
        all_goals
          go_wp2_with (go_at_call 149; refine (double_any (ex n) hx _).mono ?_; rintro e w' ⟨rfl, rfl⟩)
          refine ⟨⟨n + 1, be, bl, by omega, h1, h2, h3, h4, h5, ((R0.out.set_ne (by simp; omega) _).set_ne (by simp; omega) _).drew, ?_, ?_, by go_grown, by rw [ex_succ], by go_num⟩, by simp [intOf]; omega⟩
          · rw [← expA_set]
            first
              | exact ((R1.out.set n _).set_ne (fun h => h5 h.symm) _).drew
              | exact ((R1.out.set_ne (fun h => h5 h.symm) _).set n _).drew
          · rw [← lgA_set]
            first
              | exact ((R2.out.set_ne (fun h => h5 h) _).set (ex n) _).drew
              | exact ((R2.out.set (ex n) _).set_ne (fun h => h5 h) _).drew
      · obtain rfl : n = 255 := by omega
        go_wp2
        go_ret
        exact ⟨_, by omega, rfl, ⟨be, bl, R0.out, R1.out, R2.out⟩, hB⟩
end Go.Proofs.YthkbbcdnmdjhdaaGreat
/-! XGfC: Contracts of the table's methods: made, Exp, Log, Mul, Div, Inv, Pow. -/
namespace Go.Proofs.YthkbbcdnmdjhdaaGreat
open Go.RowKit Gf
set_option maxRecDepth 100000
set_option maxHeartbeats 400000

theorem TableAt.facts {w : World} {b : Nat} (h : TableAt w b) : ∃ be bl, w.cell? ⟨b, 0, none⟩ = some (.slice (some ⟨be, 0, none⟩) 255 255) ∧ w.cell? ⟨b, 1, none⟩ = some (.slice (some ⟨bl, 0, none⟩) 256 256) ∧
    (∀ i, i < 255 → w.cell? ⟨be, i, none⟩ = some (.int .u8 (ex i : Nat))) ∧ (∀ a, a < 256 → w.cell? ⟨bl, a, none⟩ = some (.int .i64 (lg a : Nat))) := by
  obtain ⟨be, bl, R0, R1, R2⟩ := h
  refine ⟨be, bl, R0.cell rfl, R0.cell rfl, fun i hi => ?_, fun a ha => ?_⟩
  · have := R1.cell (expA_get 255 i hi); rwa [if_pos hi] at this
  · have := R2.cell (lgA_get 255 a ha); rwa [lgN_255 a ha] at this

theorem made_any (b : Nat) (w : World) (h : TableAt w b) :
    Calls Tryz.prog 180 #[.pointer (some ⟨b, 0, none⟩)] w fun e w' => e = .returned (.bool true) ∧ w = w' := by
  obtain ⟨be, bl, c0, c1, c2, c3⟩ := h.facts
  clear c2 c3 h
  go_enter Tryz.func180, Tryz.ntmps180
  go_wp2
  go_ret
  exact ⟨rfl, rfl⟩

/-- Two to the n, n any number. -/
def exI (n : Int) : Nat := ex (n.tmod 255 % 255).toNat
theorem exI_nat (n : Nat) : exI (n : Int) = ex n := by
  unfold exI
  have h1 : (n : Int).tmod 255 % 255 = ((n % 255 : Nat) : Int) := by
    rw [Int.tmod_eq_emod_of_nonneg (by omega)]; omega
  rw [h1, Int.toNat_natCast, ex_mod]
theorem tmod_small (z : Int) (h : -255 < z) (k : z < 255) : z.tmod 255 = z := by
  by_cases hz : 0 ≤ z
  · rw [Int.tmod_eq_emod_of_nonneg hz]; omega
  · have : (-(-z)).tmod 255 = -((-z).tmod 255) := Int.neg_tmod _ _
    rw [Int.neg_neg] at this
    rw [this, Int.tmod_eq_emod_of_nonneg (by omega)]; omega
theorem exI_sub (x y : Nat) (hx : x < 255) (hy : y < 255) : exI ((x : Int) - y) = ex (x + 255 - y) := by
  unfold exI
  have h1 : ((x : Int) - y).tmod 255 % 255 = (((x + 255 - y) % 255 : Nat) : Int) := by
    have : ((x : Int) - y).tmod 255 = (x : Int) - y := tmod_small _ (by omega) (by omega)
    rw [this]; omega
  rw [h1, Int.toNat_natCast, ex_mod]

theorem exp_any (b : Nat) (n : Int) (w : World) (h : TableAt w b) :
    Calls Tryz.prog 182 #[.pointer (some ⟨b, 0, none⟩), .int .i64 n] w fun e w' => e = .returned (.int .u8 (exI n : Nat)) ∧ w = w' := by
  obtain ⟨be, bl, c0, c1, c2, c3⟩ := h.facts
  have k1 : -255 < n.tmod 255 := by
    have := Int.tmod_lt_of_pos (-n) (show (0 : Int) < 255 by decide); rw [Int.neg_tmod] at this; omega
  have k2 : n.tmod 255 < 255 := Int.tmod_lt_of_pos n (by decide)
  have k3 : 0 ≤ n.tmod 255 % 255 := by omega
  have k4 : n.tmod 255 % 255 < 255 := by omega
  have g := c2 (n.tmod 255 % 255).toNat (by omega)
  have hh := Lib.hid h
  clear c1 c2 c3 h
  go_enter Tryz.func182, Tryz.ntmps182
  go_wp2_with (go_at_call 180; refine (made_any b _ hh.out).mono ?_; rintro e w' ⟨rfl, rfl⟩)
  go_ret
  exact ⟨rfl, rfl⟩

theorem log_zero (b : Nat) (w : World) (h : TableAt w b) :
    Calls Tryz.prog 181 #[.pointer (some ⟨b, 0, none⟩), .int .u8 0] w fun e w' => e = .returned (.tuple #[.int .i64 0, .bool false]) ∧ w = w' := by
  have hh := Lib.hid h
  clear h
  go_enter Tryz.func181, Tryz.ntmps181
  go_wp2_with (go_at_call 180; refine (made_any b _ hh.out).mono ?_; rintro e w' ⟨rfl, rfl⟩)
  go_ret2
  exact ⟨rfl, rfl⟩
theorem log_any (b a : Nat) (ha : a < 256) (h0 : a ≠ 0) (w : World) (h : TableAt w b) :
    Calls Tryz.prog 181 #[.pointer (some ⟨b, 0, none⟩), .int .u8 a] w fun e w' => e = .returned (.tuple #[.int .i64 (lg a : Nat), .bool true]) ∧ w = w' := by
  obtain ⟨be, bl, c0, c1, c2, c3⟩ := h.facts
  have g := c3 a ha
  have hh := Lib.hid h
  have h1 : 0 < (a : Int) := by omega
  have h2 : (a : Int) < 256 := by omega
  clear c0 c2 c3 h
  go_enter Tryz.func181, Tryz.ntmps181
  go_wp2_with (go_at_call 180; refine (made_any b _ hh.out).mono ?_; rintro e w' ⟨rfl, rfl⟩)
  go_ret2
  exact ⟨rfl, rfl⟩

theorem tmul_any (b x y : Nat) (hx : x < 256) (hy : y < 256) (w : World) (h : TableAt w b) :
    Calls Tryz.prog 184 #[.pointer (some ⟨b, 0, none⟩), .int .u8 x, .int .u8 y] w fun e w' => e = .returned (.int .u8 (gmul x y : Nat)) ∧ w = w' := by
  have hh := Lib.hid h
  clear h
  by_cases x0 : x = 0
  · subst x0
    rw [gmul_zero_left]
    by_cases y0 : y = 0
    · subst y0
      go_enter Tryz.func184, Tryz.ntmps184
      go_wp2_with (go_at_call 181; refine (log_zero b _ hh.out).mono ?_; rintro e w' ⟨rfl, rfl⟩)
      go_ret
      exact ⟨rfl, rfl⟩
    · go_enter Tryz.func184, Tryz.ntmps184
      go_wp2_with fail
      refine (log_zero b _ hh.out).mono ?_; rintro e w' ⟨rfl, rfl⟩
      go_wp2_with fail
      refine (log_any b y hy y0 _ hh.out).mono ?_; rintro e w' ⟨rfl, rfl⟩
      go_wp2
      go_ret
      exact ⟨rfl, rfl⟩
  · by_cases y0 : y = 0
    · subst y0
      rw [gmul_zero_right]
      go_enter Tryz.func184, Tryz.ntmps184
      go_wp2_with fail
      refine (log_any b x hx x0 _ hh.out).mono ?_; rintro e w' ⟨rfl, rfl⟩
      go_wp2_with fail
      refine (log_zero b _ hh.out).mono ?_; rintro e w' ⟨rfl, rfl⟩
      go_wp2
      go_ret
      exact ⟨rfl, rfl⟩
    · have hl := lg_lt x hx
      have hm := lg_lt y hy
      rw [gmul_lg x y hx hy x0 y0, ← exI_nat]
      go_enter Tryz.func184, Tryz.ntmps184
      go_wp2_with fail
      refine (log_any b x hx x0 _ hh.out).mono ?_; rintro e w' ⟨rfl, rfl⟩
      go_wp2_with fail
      refine (log_any b y hy y0 _ hh.out).mono ?_; rintro e w' ⟨rfl, rfl⟩
      go_wp2_with fail
      refine (exp_any b _ _ hh.out).mono ?_; rintro e w' ⟨rfl, rfl⟩
      go_wp2
      go_ret
      exact ⟨rfl, rfl⟩

theorem div_none (b x : Nat) (w : World) (h : TableAt w b) :
    Calls Tryz.prog 183 #[.pointer (some ⟨b, 0, none⟩), .int .u8 x, .int .u8 0] w fun e w' => e = .returned (.tuple #[.int .u8 0, .bool false]) ∧ w = w' := by
  have hh := Lib.hid h
  clear h
  go_enter Tryz.func183, Tryz.ntmps183
  go_wp2_with (go_at_call 181; refine (log_zero b _ hh.out).mono ?_; rintro e w' ⟨rfl, rfl⟩)
  go_ret2
  exact ⟨rfl, rfl⟩
theorem div_zero (b y : Nat) (hy : y < 256) (y0 : y ≠ 0) (w : World) (h : TableAt w b) :
    Calls Tryz.prog 183 #[.pointer (some ⟨b, 0, none⟩), .int .u8 0, .int .u8 y] w fun e w' => e = .returned (.tuple #[.int .u8 0, .bool true]) ∧ w = w' := by
  have hh := Lib.hid h
  clear h
  go_enter Tryz.func183, Tryz.ntmps183
  go_wp2_with fail
  refine (log_any b y hy y0 _ hh.out).mono ?_; rintro e w' ⟨rfl, rfl⟩
  go_wp2_with fail
  refine (log_zero b _ hh.out).mono ?_; rintro e w' ⟨rfl, rfl⟩
  go_wp2
  go_ret2
  exact ⟨rfl, rfl⟩
theorem div_any (b x y : Nat) (hx : x < 256) (x0 : x ≠ 0) (hy : y < 256) (y0 : y ≠ 0) (w : World) (h : TableAt w b) :
    Calls Tryz.prog 183 #[.pointer (some ⟨b, 0, none⟩), .int .u8 x, .int .u8 y] w fun e w' => e = .returned (.tuple #[.int .u8 (ex (lg x + 255 - lg y) : Nat), .bool true]) ∧ w = w' := by
  have hh := Lib.hid h
  clear h
  have hl := lg_lt x hx
  have hm := lg_lt y hy
  rw [← exI_sub _ _ hl hm]
  go_enter Tryz.func183, Tryz.ntmps183
  go_wp2_with fail
  refine (log_any b y hy y0 _ hh.out).mono ?_; rintro e w' ⟨rfl, rfl⟩
  go_wp2_with fail
  refine (log_any b x hx x0 _ hh.out).mono ?_; rintro e w' ⟨rfl, rfl⟩
  go_wp2_with fail
  refine (exp_any b _ _ hh.out).mono ?_; rintro e w' ⟨rfl, rfl⟩
  go_wp2
  go_ret2
  exact ⟨rfl, rfl⟩
/-- One divided by y. -/
def ginv (y : Nat) : Nat := ex (255 - lg y)
theorem inv_none (b : Nat) (w : World) (h : TableAt w b) :
    Calls Tryz.prog 168 #[.pointer (some ⟨b, 0, none⟩), .int .u8 0] w fun e w' => e = .returned (.tuple #[.int .u8 0, .bool false]) ∧ w = w' := by
  have hh := Lib.hid h
  clear h
  go_enter Tryz.func168, Tryz.ntmps168
  go_wp2_with fail
  refine (div_none b 1 _ hh.out).mono ?_; rintro e w' ⟨rfl, rfl⟩
  go_wp2
  go_ret2
  exact ⟨rfl, rfl⟩
theorem inv_any (b y : Nat) (hy : y < 256) (y0 : y ≠ 0) (w : World) (h : TableAt w b) :
    Calls Tryz.prog 168 #[.pointer (some ⟨b, 0, none⟩), .int .u8 y] w fun e w' => e = .returned (.tuple #[.int .u8 (ginv y : Nat), .bool true]) ∧ w = w' := by
  have hh := Lib.hid h
  clear h
  go_enter Tryz.func168, Tryz.ntmps168
  go_wp2_with fail
  refine (div_any b 1 y (by decide) (by decide) hy y0 _ hh.out).mono ?_; rintro e w' ⟨rfl, rfl⟩
  go_wp2
  go_ret2
  refine ⟨?_, rfl⟩
  have : lg 1 = 0 := by decide
  rw [this]; unfold ginv; rw [Nat.zero_add]; rfl

/-- x to the n. -/
def gpow (x : Nat) (n : Int) : Nat := if n < 0 then 0 else if n = 0 then 1 else if x = 0 then 0 else exI ((lg x : Int) * (n % 255))
theorem tpow_any (b x : Nat) (hx : x < 256) (n : Int) (w : World) (h : TableAt w b) :
    Calls Tryz.prog 163 #[.pointer (some ⟨b, 0, none⟩), .int .u8 x, .int .i64 n] w fun e w' => e = .returned (.int .u8 (gpow x n : Nat)) ∧ w = w' := by
  have hh := Lib.hid h
  clear h
  by_cases n0 : n < 0
  · have e : gpow x n = 0 := by unfold gpow; rw [if_pos n0]
    rw [e]
    clear e
    go_enter Tryz.func163, Tryz.ntmps163
    go_wp2_with (go_at_call 180; refine (made_any b _ hh.out).mono ?_; rintro e w' ⟨rfl, rfl⟩)
    go_ret
    exact ⟨rfl, rfl⟩
  by_cases n1 : n = 0
  · subst n1
    have e : gpow x 0 = 1 := rfl
    rw [e]
    clear e
    go_enter Tryz.func163, Tryz.ntmps163
    go_wp2_with (go_at_call 180; refine (made_any b _ hh.out).mono ?_; rintro e w' ⟨rfl, rfl⟩)
    go_ret
    exact ⟨rfl, rfl⟩
  have n2 : 0 < n := by omega
  clear n0 n1
  by_cases x0 : x = 0
  · subst x0
    have e : gpow 0 n = 0 := by unfold gpow; rw [if_neg (by omega), if_neg (by omega), if_pos rfl]
    rw [e]
    clear e
    go_enter Tryz.func163, Tryz.ntmps163
    go_wp2_with (first | (go_at_call 180; refine (made_any b _ hh.out).mono ?_; rintro e w' ⟨rfl, rfl⟩) | (go_at_call 181; refine (log_zero b _ hh.out).mono ?_; rintro e w' ⟨rfl, rfl⟩))
    go_ret
    exact ⟨rfl, rfl⟩
  · have e : gpow x n = exI ((lg x : Int) * (n % 255)) := by unfold gpow; rw [if_neg (by omega), if_neg (by omega), if_neg x0]
    rw [e]
    clear e
    have hl := lg_lt x hx
    have b1 : 0 ≤ n % 255 := by omega
    have b2 : n % 255 < 255 := by omega
    have b3 : 0 ≤ (lg x : Int) * (n % 255) := Int.mul_nonneg (by omega) b1
    have b4 : (lg x : Int) * (n % 255) ≤ 255 * 255 := Int.mul_le_mul (by omega) (by omega) b1 (by omega)
    go_enter Tryz.func163, Tryz.ntmps163
    go_wp2_with (first | (go_at_call 180; refine (made_any b _ hh.out).mono ?_; rintro e w' ⟨rfl, rfl⟩) | (go_at_call 181; refine (log_any b x hx x0 _ hh.out).mono ?_; rintro e w' ⟨rfl, rfl⟩) | (go_at_call 182; refine (exp_any b _ _ hh.out).mono ?_; rintro e w' ⟨rfl, rfl⟩))
    go_ret
    exact ⟨rfl, rfl⟩

end Go.Proofs.YthkbbcdnmdjhdaaGreat
/-! XGfD: Contracts of MulAdd: the table's and the reference's: a new row, nothing that was there is changed. -/
namespace Go.Proofs.YthkbbcdnmdjhdaaGreat
open Go.RowKit Gf
set_option maxRecDepth 100000
set_option maxHeartbeats 1000000
attribute [local go_sem] min_int2 max_int2

theorem g8_bits (x y c : UInt8) : bits .xor .u8 (x.toNat : Int) ((gmul y.toNat c.toNat : Nat) : Int) = ((x ^^^ g8 y c).toNat : Int) := by
  rw [u8_xor_nat _ _ (u8lt x) (gmul_lt _ _ (u8lt y)), UInt8.toNat_xor, g8_toNat]
theorem bvs_set (l : List UInt8) (i : Nat) (x : UInt8) : (bvs l).set i (bv x) = bvs (l.set i x) := by
  simp [List.map_set]

theorem muladd_empty (b : Nat) (a : Option Addr) (cap : Nat) (s : List UInt8) (c : UInt8) (sv : Value) (w : World) (h : TableAt w b) (hd : Bytes w (.slice a 0 cap) []) (hs : Bytes w sv s) :
    Calls Tryz.prog 169 #[.pointer (some ⟨b, 0, none⟩), .slice a 0 cap, sv, .int .u8 c.toNat] w fun e w' => e = .returned (.slice none 0 0) ∧ Ext w w' := by
  obtain ⟨a2, cap2, rfl, -, -, -⟩ := hs
  have hh := Lib.hid h
  have hdd := Lib.hid hd
  clear h hd
  go_enter Tryz.func169, Tryz.ntmps169
  go_wp2_with (first | (go_at_call 180; refine (made_any b _ hh.out).mono ?_; rintro e w' ⟨rfl, rfl⟩) | (at_builtin; refine wpList_app_none rfl _ _ 24 5 (.int .u8 0) 1 rfl Tryz.underlying24 info_u8 rfl rfl rfl hdd.out ?_; intro w1 hg1))
  go_rounds 1
  go_ret
  exact ⟨rfl, Ext.grown hg1 (fun k h => by cases h)⟩

theorem muladd_full (b : Nat) (d s : List UInt8) (c : UInt8) (db dof dcap : Nat) (sa : Option Addr) (scap : Nat) (w : World) (h : TableAt w b) (hd0 : 0 < d.length) (hdl : d.length ≤ 140737488351232) (hsl : s.length ≤ 140737488351232)
    (hd : Bytes w (.slice (some ⟨db, dof, none⟩) d.length dcap) d) (hs : Bytes w (.slice sa s.length scap) s) :
    Calls Tryz.prog 169 #[.pointer (some ⟨b, 0, none⟩), .slice (some ⟨db, dof, none⟩) d.length dcap, .slice sa s.length scap, .int .u8 c.toNat] w
      fun e w' => ∃ v, e = .returned v ∧ Own w' w.heap.size 5 v (bvs (mad d s c)) ∧ Ext w w' := by
  have hh := Lib.hid h
  have hdd := Lib.hid hd
  have hss := Lib.hid hs
  have hsize := bvs_len d
  clear h hd hs
  go_enter Tryz.func169, Tryz.ntmps169
  go_wp2_with (first | (go_at_call 180; refine (made_any b _ hh.out).mono ?_; rintro e w' ⟨rfl, rfl⟩) | (at_builtin; refine wpList_app_some rfl _ _ 24 5 (.int .u8 0) 1 rfl Tryz.underlying24 info_u8 rfl rfl (Own.nil w w.heap.size _) rfl hdd.out (bvs_one _) ?_ ?_ (Nat.le_refl _) d.length ?_ (bvs d) rfl hd0 ?_))
  · simp [maxLen]; omega
  · simp; omega
  · simp
  intro g gc w1 hown hgr
  have hB1 : Ext w w1 := Ext.grown hgr (fun k h => by cases h)
  clear hgr
  have hO := Lib.hid hown
  clear hown
  go_wp2
  go_loopw [21] (fun v21 wr => ∃ i : Nat, i ≤ d.length ∧ i ≤ s.length ∧ Hid (Own wr w.heap.size 5 (.slice (some ⟨g, 0, none⟩) d.length gc) (bvs (mad d (s.take i) c))) ∧ Below w.heap.size w wr ∧ v21 = .int .i64 i) (fun v21 _ => (d.length - intOf v21).toNat)
  case atStart => exact ⟨0, by omega, by omega, by rw [List.take_zero, mad_nil]; exact hO, hB1, rfl⟩
  case round =>
    obtain ⟨i, hi1, hi2, hOr, hBr, rfl⟩ := hrel
    by_cases hlt : i < d.length ∧ i < s.length
    · obtain ⟨hl1, hl2⟩ := hlt
      have hm := mad_take d s c i hl1 hl2
      have c1 := hOr.out.parts.2.2.2.2.2.1 i (bv d[i]) (by rw [List.getElem?_map, hm.1]; rfl)
      have f1 := hOr.out.parts.2.2.2.2.2.2 i
      have hg1 := hOr.out.parts.2.1
      have hmin : (i : Int) < min (d.length : Int) (s.length : Int) := by omega
      obtain ⟨sb, so, rfl, c2⟩ := (hss.out.ext hBr).at (bvs_get hl2)
      have hm2 := Lib.hid hm.2
      clear hm
      have hT := Lib.hid (hh.out.ext hBr)
      have hgb := g8_bits d[i] s[i] c
      go_wp2
      go_region_with (go_at_call 184; refine (tmul_any b _ _ (u8lt s[i]) (u8lt c) _ (by exact hT.out)).mono ?_; rintro e w' ⟨rfl, rfl⟩)
      all_goals
        go_wp2
        refine ⟨⟨i + 1, by omega, by omega, ?_, (hBr.setCell (p := ⟨g, i, none⟩) hg1 _).drew, by go_num⟩, by simp [intOf]; omega⟩
        have := hOr.out.set i (bv (d[i] ^^^ g8 s[i] c))
        rw [bvs_set, hm2.out] at this
        exact this
    · have hmin : min (d.length : Int) (s.length : Int) ≤ (i : Int) := by omega
      have hO2 := hOr.out
      rw [mad_long d s c i (by omega)] at hO2
      have hO3 := Lib.hid hO2
      clear hO2 hlt hO hOr hsize
      go_wp2
      go_ret
      exact ⟨_, rfl, hO3.out, hBr⟩

/-- MulAdd: a new row. -/
theorem muladd_any (b : Nat) (d s : List UInt8) (c : UInt8) (dv sv : Value) (w : World) (h : TableAt w b) (hdl : d.length ≤ 140737488351232) (hsl : s.length ≤ 140737488351232) (hd : Bytes w dv d) (hs : Bytes w sv s) :
    Calls Tryz.prog 169 #[.pointer (some ⟨b, 0, none⟩), dv, sv, .int .u8 c.toNat] w
      fun e w' => ∃ v, e = .returned v ∧ Own w' w.heap.size 5 v (bvs (mad d s c)) ∧ Ext w w' := by
  rcases hd.forms with ⟨h0, a, cap, rfl⟩ | ⟨h0, db, dof, dcap, rfl, _⟩
  · have : d = [] := by simpa using h0
    subst this
    refine (muladd_empty b a cap s c sv w h hd hs).mono ?_
    rintro e w' ⟨rfl, hx⟩
    exact ⟨_, rfl, by cases s <;> exact Own.nil _ _ _, hx⟩
  · obtain ⟨sa, scap, e1, k1, k2, k3⟩ := id hs
    have hpos : 0 < d.length := by
      cases d with
      | nil => simp at h0
      | cons x l => simp
    rw [bvs_len s] at e1
    subst e1
    rw [bvs_len d] at hd ⊢
    exact muladd_full b d s c db dof dcap sa scap w h hpos hdl hsl hd hs
end Go.Proofs.YthkbbcdnmdjhdaaGreat
/-! XGfE: Contracts of the reference's field functions: Pow, Exp, Log, Inv, Div, MulAdd. -/
namespace Go.Proofs.YthkbbcdnmdjhdaaGreat
open Go.RowKit Gf
set_option maxRecDepth 100000
set_option maxHeartbeats 1000000
attribute [local go_sem] min_int2 max_int2

theorem pow_step (x i : Nat) (hx : x < 256) (x0 : x ≠ 0) : gmul (ex (lg x * i)) x = ex (lg x * (i + 1)) := by
  have : gmul (ex (lg x * i)) (ex (lg x)) = _ := gmul_ex_ex _ _
  rw [ex_lg x hx x0] at this
  rw [this]; rfl
theorem gpow_pos (x : Nat) (n : Int) (h : 0 ≤ n) (x0 : x ≠ 0) : gpow x n = ex (lg x * (n % 255).toNat) := by
  unfold gpow
  rw [if_neg (by omega)]
  by_cases h0 : n = 0
  · subst h0; rw [if_pos rfl]; rfl
  · rw [if_neg h0, if_neg x0, ← exI_nat]
    congr 1
    rw [Int.natCast_mul]; congr 1; omega

theorem rpow_any (x : Nat) (hx : x < 256) (n : Int) (w : World) :
    Calls Tryz.prog 171 #[.int .u8 x, .int .i64 n] w fun e w' => e = .returned (.int .u8 (gpow x n : Nat)) ∧ w = w' := by
  by_cases n0 : n < 0
  · have e : gpow x n = 0 := by unfold gpow; rw [if_pos n0]
    rw [e]
    clear e
    go_enter Tryz.func171, Tryz.ntmps171
    go_wp2
    go_ret
    exact ⟨rfl, rfl⟩
  have n1 : 0 ≤ n := by omega
  by_cases x0 : x = 0
  · subst x0
    by_cases n2 : n = 0
    · subst n2
      have e : gpow 0 0 = 1 := rfl
      rw [e]
      clear e
      go_enter Tryz.func171, Tryz.ntmps171
      go_wp2
      go_rounds 1
      go_ret
      exact ⟨rfl, rfl⟩
    · have n3 : 0 < n := by omega
      have e : gpow 0 n = 0 := by unfold gpow; rw [if_neg (by omega), if_neg n2, if_pos rfl]
      rw [e]
      clear e
      go_enter Tryz.func171, Tryz.ntmps171
      go_wp2
      go_ret
      exact ⟨rfl, rfl⟩
  · rw [gpow_pos x n n1 x0]
    have hb : (((x : Nat) : Int) == 0) = false := by simp; omega
    have hx0 : 0 < (x : Int) := by omega
    have key : ∀ i v6, v6 = Value.int .i64 (i : Nat) → (i : Int) ≤ n % 255 → i ≤ 255 := by intro i v _ h; omega
    clear key
    by_cases n2 : n = 0
    · subst n2
      go_enter Tryz.func171, Tryz.ntmps171
      go_wp2
      go_rounds 1
      go_ret
      exact ⟨rfl, rfl⟩
    have n3 : 0 < n := by omega
    go_enter Tryz.func171, Tryz.ntmps171
    go_wp2
    go_loop [5, 6] (fun v5 v6 => ∃ i : Nat, (i : Int) ≤ n % 255 ∧ v5 = .int .u8 (ex (lg x * i) : Nat) ∧ v6 = .int .i64 i) (fun _ v6 => (255 - intOf v6).toNat)
    case atStart => exact ⟨0, by omega, rfl, rfl⟩
    case round =>
      obtain ⟨i, hi, rfl, rfl⟩ := hrel
      have hs := Lib.hid (pow_step x i hx x0)
      by_cases hlt : (i : Int) < n % 255
      · go_wp2_with (go_at_call 176; refine (rmul_any _ x (ex_lt _) hx _).mono ?_; rintro e w' ⟨rfl, rfl⟩)
        go_round
        case rel => exact ⟨i + 1, by omega, by rw [hs.out], by go_num⟩
        case measure => simp [intOf]; omega
      · go_wp2
        go_ret
        have : (n % 255).toNat = i := by omega
        exact ⟨by rw [this]; rfl, rfl⟩

theorem ex_inj (n a : Nat) (hn : n < 255) (ha : a < 256) (a0 : a ≠ 0) : ex n = a ↔ n = lg a := by
  constructor
  · intro h; rw [← h, lg_ex, Nat.mod_eq_of_lt hn]
  · intro h; rw [h, ex_lg a ha a0]
theorem ginv_lt (a : Nat) : ginv a < 256 := ex_lt _
theorem gmul_ginv (a : Nat) (ha : a < 256) (a0 : a ≠ 0) : gmul a (ginv a) = 1 := by
  have hl := lg_lt a ha
  have := gmul_ex_ex (lg a) (255 - lg a)
  rw [ex_lg a ha a0] at this
  unfold ginv
  rw [this, show lg a + (255 - lg a) = 255 by omega]; rfl
theorem gmul_one_iff (a b : Nat) (ha : a < 256) (a0 : a ≠ 0) (hb : b < 256) : gmul a b = 1 ↔ b = ginv a := by
  constructor
  · intro h
    have h1 : gmul (gmul (ginv a) a) b = gmul (ginv a) (gmul a b) := gmul_assoc _ _ _ (ginv_lt a) ha hb
    rw [h, gmul_comm (ginv a) a (ginv_lt a) ha, gmul_ginv a ha a0, gmul_one_left b hb, gmul_one _ (ginv_lt a)] at h1
    exact h1
  · intro h; rw [h, gmul_ginv a ha a0]

theorem rinv_zero (w : World) :
    Calls Tryz.prog 175 #[.int .u8 0] w fun e w' => e = .returned (.tuple #[.int .u8 0, .bool false]) ∧ w = w' := by
  go_enter Tryz.func175, Tryz.ntmps175
  go_wp2
  go_loop [4] (fun v4 => ∃ i : Nat, 1 ≤ i ∧ i ≤ 256 ∧ v4 = .int .i64 i) (fun v4 => (256 - intOf v4).toNat)
  case atStart => exact ⟨1, by omega, by omega, rfl⟩
  case round =>
    obtain ⟨i, hi1, hi, rfl⟩ := hrel
    have hz := gmul_zero_left i
    by_cases hlt : (i : Int) < 256
    · go_wp2_with (go_at_call 176; refine (rmul_any 0 i (by decide) (by omega) _).mono ?_; rintro e w' ⟨rfl, rfl⟩)
      go_round
      case rel => exact ⟨i + 1, by omega, by omega, by go_num⟩
      case measure => simp [intOf]; omega
    · go_wp2
      go_ret2
      exact ⟨rfl, rfl⟩
theorem rinv_any (a : Nat) (ha : a < 256) (a0 : a ≠ 0) (w : World) :
    Calls Tryz.prog 175 #[.int .u8 a] w fun e w' => e = .returned (.tuple #[.int .u8 (ginv a : Nat), .bool true]) ∧ w = w' := by
  have hl := ginv_lt a
  have hg : 0 < ginv a := ex_pos _
  go_enter Tryz.func175, Tryz.ntmps175
  go_wp2
  go_loop [4] (fun v4 => ∃ i : Nat, 1 ≤ i ∧ i ≤ ginv a ∧ v4 = .int .i64 i) (fun v4 => (256 - intOf v4).toNat)
  case atStart => exact ⟨1, by omega, by omega, rfl⟩
  case round =>
    obtain ⟨i, hi1, hi, rfl⟩ := hrel
    have hlt : (i : Int) < 256 := by omega
    have hj := gmul_one_iff a i ha a0 (by omega)
    by_cases he : i = ginv a
    · have hq : (((gmul a i : Nat) : Int) == 1) = true := by simp; omega
      have he' := Lib.hid he
      clear hj he
      go_wp2_with (go_at_call 176; refine (rmul_any a i ha (by omega) _).mono ?_; rintro e w' ⟨rfl, rfl⟩)
      go_ret2
      exact ⟨by rw [← he'.out]; rfl, rfl⟩
    · have hq : (((gmul a i : Nat) : Int) == 1) = false := by simp; omega
      clear hj
      go_wp2_with (go_at_call 176; refine (rmul_any a i ha (by omega) _).mono ?_; rintro e w' ⟨rfl, rfl⟩)
      go_round
      case rel => exact ⟨i + 1, by omega, by omega, by go_num⟩
      case measure => simp [intOf]; omega

end Go.Proofs.YthkbbcdnmdjhdaaGreat
/-! XApp: append, with what is known of the block that comes out: it is the old one or a new one. Sources: a slice, a string, so many noughts. No statement about the program. -/
namespace Go.Proofs.YthkbbcdnmdjhdaaGreat
open Go.RowKit

theorem setCells_block (g : Nat) : ∀ (news : List Value) (off : Nat) (w : World) (e : TypeId) (cur : Array Value), Row w g e cur →
    ∃ cur', Row (w.setCells g off news) g e cur' ∧ cur'.size = cur.size ∧ ∀ j, cur'[j]? = if off ≤ j ∧ j < off + news.length ∧ j < cur.size then news[j - off]? else cur[j]?
  | [], off, w, e, cur, h => ⟨cur, h, rfl, fun j => by rw [if_neg (by simp; omega)]⟩
  | x :: l, off, w, e, cur, h => by
    obtain ⟨cur', h1, h2, h3⟩ := setCells_block g l (off + 1) (w.setCell ⟨g, off, none⟩ x) e (cur.setIfInBounds off x) (h.set off x)
    refine ⟨cur', h1, by simpa using h2, fun j => ?_⟩
    rw [h3 j, Array.getElem?_setIfInBounds]
    simp only [Array.size_setIfInBounds, List.length_cons]
    by_cases hj : off = j
    · subst hj
      rw [if_neg (by omega), if_pos rfl]
      by_cases hs : off < cur.size
      · rw [if_pos hs, if_pos ⟨by omega, by omega, hs⟩, Nat.sub_self]; rfl
      · rw [if_neg hs, if_neg (fun h => hs h.2.2), Array.getElem?_eq_none (by omega)]
    · rw [if_neg hj]
      by_cases c : off + 1 ≤ j ∧ j < off + 1 + l.length ∧ j < cur.size
      · rw [if_pos c, if_pos ⟨by omega, by omega, c.2.2⟩, show j - off = (j - (off + 1)) + 1 by omega, List.getElem?_cons_succ]
      · rw [if_neg c, if_neg (fun h => c ⟨by omega, by omega, h.2.2⟩)]
theorem setCells_other (g : Nat) : ∀ (news : List Value) (off : Nat) (w : World) (k : Nat), k ≠ g → (w.setCells g off news).heap[k]? = w.heap[k]?
  | [], _, _, _, _ => rfl
  | _ :: l, off, _, k, h => (setCells_other g l (off + 1) _ k h).trans (Below.heap_setCell _ _ _ _ h)
theorem setCells_size (g : Nat) : ∀ (news : List Value) (off : Nat) (w : World), (w.setCells g off news).heap.size = w.heap.size
  | [], _, _ => rfl
  | _ :: l, off, _ => (setCells_size g l (off + 1) _).trans (by simp)
theorem setCells_rest (g : Nat) : ∀ (news : List Value) (off : Nat) (w : World), (w.setCells g off news).os = w.os ∧ (w.setCells g off news).tape = w.tape ∧ (w.setCells g off news).output = w.output
  | [], _, _ => ⟨rfl, rfl, rfl⟩
  | x :: l, off, w => setCells_rest g l (off + 1) (w.setCell ⟨g, off, none⟩ x)

/-- What append gives: the block that comes out is the old one or a new one. -/
def AppOut (w : World) (B : Nat) (e : TypeId) (v : Value) (out : List Value) (v' : Value) (w' : World) : Prop :=
  Own w' B e v' out ∧ w.grownBy w' v.ownBlock ∧ (v'.ownBlock = v.ownBlock ∨ ∃ k, v'.ownBlock = some k ∧ w.heap.size ≤ k)

/-- The arm that has room. -/
theorem app_room {w : World} {B : Nat} {e : TypeId} {g cap : Nat} {cs news : List Value} (hown : Own w B e (.slice (some ⟨g, 0, none⟩) cs.length cap) cs) (hroom : cs.length + news.length ≤ cap) :
    AppOut w B e (.slice (some ⟨g, 0, none⟩) cs.length cap) (cs ++ news) (.slice (some ⟨g, 0, none⟩) (cs.length + news.length) cap) (w.setCells g cs.length news) := by
  rcases hown.forms with ⟨h, _⟩ | ⟨g', cap', cur, h, hb, hr, hl, hs, ht, hm⟩
  · cases h
  · simp only [Value.slice.injEq, Option.some.injEq, Addr.mk.injEq, and_true, true_and] at h
    obtain ⟨rfl, rfl⟩ := h
    obtain ⟨cur', h1, h2, h3⟩ := setCells_block g news cs.length w e cur hr
    have hlen : (cs ++ news).length = cs.length + news.length := by simp
    refine ⟨?_, ⟨(setCells_rest g news _ w).1, (setCells_rest g news _ w).2.1, (setCells_rest g news _ w).2.2, by rw [setCells_size]; exact Nat.le_refl _, fun k _ hk => setCells_other g news _ w k (fun h => hk (by rw [h]; rfl))⟩, .inl rfl⟩
    rw [← hlen]
    refine Own.mk hb h1 (by omega) (by omega) ?_ hm
    apply List.ext_getElem?
    intro j
    rw [List.getElem?_take]
    by_cases c : j < (cs ++ news).length
    · rw [if_pos c, Array.getElem?_toList, h3 j, List.getElem?_append]
      by_cases c2 : j < cs.length
      · rw [if_neg (by omega), if_pos c2, ← ht, List.getElem?_take, if_pos (by rw [ht] at *; omega), Array.getElem?_toList]
      · rw [if_pos ⟨by omega, by omega, by omega⟩, if_neg c2]
    · rw [if_neg c, List.getElem?_eq_none (by omega)]
/-- The arm that grows. -/
theorem app_grow {w : World} {B : Nat} {e : TypeId} {z v : Value} {cs news : List Value} (hz : z.cells = #[z]) (hB : B ≤ w.heap.size) (need old : Nat) (hneed : need = cs.length + news.length) (hm : need ≤ maxLen) :
    AppOut w B e v (cs ++ news) (.slice (some ⟨w.heap.size, 0, none⟩) need (grownCap w need old e)) (w.drew.alloc (.cells ((cs ++ news).toArray ++ Builtin.zeroCells z.cells (grownCap w need old e - need)) e)) := by
  have hge := grownCap_ge w need old e
  have hcm : grownCap w need old e ≤ maxLen := grownCap_le_maxLen w need old e hm
  have hlen : (cs ++ news).length = need := by simp [hneed]
  refine ⟨?_, ⟨rfl, rfl, rfl, by simp, fun k hk _ => Below.heap_alloc w.drew _ k hk⟩, .inr ⟨_, rfl, Nat.le_refl _⟩⟩
  rw [← hlen] at hge hcm ⊢
  refine Own.mk hB (Row.new w.drew e _) hge ?_ ?_ hcm
  · simp only [Array.size_append, List.size_toArray, size_zeroCells, hz]
    simp only [List.length_cons, List.length_nil, Nat.mul_one, Nat.zero_add]
    omega
  · rw [Array.toList_append, List.take_left' rfl]

theorem nextslicecap_le (need old : Nat) (h : old < need) : Builtin.nextslicecap need old ≤ 2 * need + 768 := by
  have grow : ∀ r c, c ≤ need → Builtin.growBy need r c ≤ 2 * need + 768 := by
    intro r
    induction r with
    | zero => intro c hc; simp only [Builtin.growBy]; omega
    | succ r ih =>
      intro c hc
      simp only [Builtin.growBy]
      split
      · omega
      · by_cases h2 : c + (c + 768) / 4 ≤ need
        · exact ih _ h2
        · cases r with
          | zero => simp only [Builtin.growBy]; omega
          | succ r => simp only [Builtin.growBy]; rw [if_pos (by omega)]; omega
  unfold Builtin.nextslicecap
  split
  · omega
  · split
    · omega
    · exact grow 4 old (by omega)

/-- append(v, x...), whatever is appended, v the call's own. -/
theorem run_appx {P : Program} (w : World) (t tx ty e : TypeId) (z : Value) (bytes : Nat) (ht : P.underlying t = some (.slice e))
    (hi : (P.info? e).map (fun i => (i.zero, i.size, i.bytes)) = some (some z, 1, bytes)) (hz : z.cells = #[z])
    {B : Nat} {v : Value} {cs : List Value} (hown : Own w B e v cs) {x : Value} {news : List Value} (hx : Src P 1 tx x news.length news w)
    (hm : cs.length + news.length ≤ maxLen) (hb : (2 * (cs.length + news.length) + 768) * bytes ≤ 281474976710656) (hB : B ≤ w.heap.size) :
    ∃ v' w', (Builtin.append_ #[t, tx] ty #[v, x]).run P w = .ok v' w' ∧ AppOut w B e v (cs ++ news) v' w' := by
  obtain ⟨i, hi, hzz, hs, hby⟩ := info_parts hi
  have hm' : ((cs.length + news.length : Nat) : Int) ≤ 9223372036854775807 := by simp only [maxLen] at hm; omega
  have hfit : ∀ old, old < cs.length + news.length → Builtin.nextslicecap (cs.length + news.length) old * i.bytes ≤ 281474976710656 := fun old ho => by
    rw [hby]; exact Nat.le_trans (Nat.mul_le_mul_right _ (nextslicecap_le _ _ ho)) hb
  rcases hown.forms with ⟨rfl, rfl⟩ | ⟨g, cap, cur, rfl, hbg, hr, hl, hcs, htk, hcap⟩
  · by_cases h0 : news.length = 0
    · have : news = [] := List.eq_nil_of_length_eq_zero h0
      subst this
      refine ⟨.slice none 0 0, w, ?_, Own.nil _ _ _, ⟨rfl, rfl, rfl, Nat.le_refl _, fun _ _ _ => rfl⟩, .inl rfl⟩
      have hc : (Builtin.firstCells 1 0 x).run P w = .ok #[] w := hx.cells
      have hlen : ∀ w', (Builtin.lenOf x).run P w' = .ok 0 w' := hx.len
      rcases hx.kind with ⟨e', hk⟩ | hk <;> simp [Builtin.append_, run_underlying ht, run_underlying hk, sizeOf, typeInfo, hi, hs, hlen, hc]
    · have hr := run_append_grow_src (P := P) w t tx ty e i z ht hi hzz none 0 0 [] (by simp [Builtin.firstCells]) x news.length news (by rw [hs]; exact hx) (by omega) (by simpa using hm') (by simpa using hfit 0 (by simp; omega))
      exact ⟨_, _, hr, app_grow (w := w) (cs := []) hz hB _ 0 (by simp) (by simpa using hm)⟩
  · by_cases hroom : cs.length + news.length ≤ cap
    · have hc : ∀ j, j < news.length → (w.cell? ⟨g, 0 + cs.length * i.size + j, none⟩).isSome = true := fun j hj => by
        rw [hr.cell (v := cur[0 + cs.length * i.size + j]'(by rw [hs]; omega)) (by rw [Array.getElem?_eq_getElem])]; rfl
      have hrun := run_append_room_src (P := P) w t tx ty e i ht hi g 0 cs.length cap x news.length news (by rw [hs]; exact hx) hroom hc (fun j _ => hr.unfrozen _)
      rw [hs, Nat.mul_one, Nat.zero_add] at hrun
      exact ⟨_, _, hrun, app_room hown hroom⟩
    · have hold : (Builtin.firstCells i.size cs.length (.slice (some ⟨g, 0, none⟩) cs.length cap)).run P w.drew = .ok cs.toArray w.drew := by
        refine run_firstCells_some (P := P) w.drew i.size cs.length ⟨g, 0, none⟩ cs.length cap cs (by rw [hs, Nat.mul_one]) fun j u hu => ?_
        rw [Addr.add_lit, Nat.zero_add]
        exact hown.parts.2.2.2.2.2.1 j u hu
      have hrun := run_append_grow_src (P := P) w t tx ty e i z ht hi hzz (some ⟨g, 0, none⟩) cs.length cap cs hold x news.length news (by rw [hs]; exact hx) (by omega) hm' (hfit cap (by omega))
      exact ⟨_, _, hrun, app_grow hz hB _ cap rfl hm⟩

theorem AppOut.trans {w w1 w2 : World} {B : Nat} {e : TypeId} {v v1 v2 : Value} {o1 o2 : List Value} (h : AppOut w B e v o1 v1 w1) (k : AppOut w1 B e v1 o2 v2 w2) : AppOut w B e v o2 v2 w2 := by
  obtain ⟨_, g1, b1⟩ := h
  obtain ⟨k1, g2, b2⟩ := k
  refine ⟨k1, ⟨g2.os.trans g1.os, g2.tape.trans g1.tape, g2.output.trans g1.output, Nat.le_trans g1.size g2.size, fun j hj hne => ?_⟩, ?_⟩
  · refine (g2.block j (Nat.lt_of_lt_of_le hj g1.size) ?_).trans (g1.block j hj hne)
    rcases b1 with b1 | ⟨q, b1, hq⟩
    · rw [b1]; exact hne
    · rw [b1]; intro h; injection h with h; omega
  · rcases b2 with b2 | ⟨q, b2, hq⟩
    · rw [b2]; exact b1
    · exact .inr ⟨q, b2, Nat.le_trans g1.size hq⟩

/-- append(v, make([]T, n)...): noughts. -/
theorem run_app_zeros {P : Program} (w : World) (t tx ty e : TypeId) (z : Value) (bytes : Nat) (ht : P.underlying t = some (.slice e)) (hx : P.underlying tx = some (.int .i64))
    (hi : (P.info? e).map (fun i => (i.zero, i.size, i.bytes)) = some (some z, 1, bytes)) (hz : z.cells = #[z]) (hz1 : z.oneCell' = true)
    {B : Nat} {v : Value} {cs : List Value} (hown : Own w B e v cs) (n : Nat)
    (hm : cs.length + n ≤ maxLen) (hb : (2 * (cs.length + n) + 768) * bytes ≤ 281474976710656) (hB : B ≤ w.heap.size) :
    ∃ v' w', (Builtin.append_ #[t, tx] ty #[v, .int .i64 (n : Int)]).run P w = .ok v' w' ∧ AppOut w B e v (cs ++ List.replicate n z) v' w' := by
  obtain ⟨i, hi, hzz, hs, hby⟩ := info_parts hi
  have hm' : ((cs.length + n : Nat) : Int) ≤ 9223372036854775807 := by simp only [maxLen] at hm; omega
  have hw : IntKind.i64.wrap (n : Int) = (n : Int) := by rw [IntKind.wrap_i64]; omega
  have h0 : ¬ ((n : Int) < 0) := by omega
  have hw0 : IntKind.i64.wrap 0 = 0 := by rw [IntKind.wrap_i64]; rfl
  have hb1 : ¬ ((281474976710656 : Int) < (n : Int) * (i.bytes : Int)) := by
    rw [hby]
    have : n * bytes ≤ 281474976710656 := Nat.le_trans (Nat.mul_le_mul_right _ (by omega)) hb
    have h2 : ((n * bytes : Nat) : Int) ≤ 281474976710656 := by omega
    rw [Int.natCast_mul] at h2; omega
  have hlen : (List.replicate n z).length = n := List.length_replicate
  have hzc : Builtin.zeroCells z.cells n = (List.replicate n z).toArray := by
    apply Array.ext'
    apply List.ext_getElem?
    intro j
    rw [hz]
    simp only [Builtin.zeroCells, List.size_toArray, List.length_cons, List.length_nil, Nat.zero_add, Nat.mul_one, Nat.mod_one]
    by_cases hj : j < n
    · simp [hj]
    · simp [hj]
  have hz1' : ∀ u ∈ List.replicate n z, u.oneCell' = true := fun u hu => by rw [List.eq_of_mem_replicate hu]; exact hz1
  have hfit : ∀ old, old < cs.length + n → Builtin.nextslicecap (cs.length + n) old * i.bytes ≤ 281474976710656 := fun old ho => by
    rw [hby]; exact Nat.le_trans (Nat.mul_le_mul_right _ (nextslicecap_le _ _ ho)) hb
  have grow : ∀ (base : Option Addr) (cap : Nat), cap < cs.length + n → (Builtin.firstCells 1 cs.length (.slice base cs.length cap)).run P w.drew = .ok cs.toArray w.drew →
      (Builtin.append_ #[t, tx] ty #[.slice base cs.length cap, .int .i64 (n : Int)]).run P w =
        .ok (.slice (some ⟨w.heap.size, 0, none⟩) (cs.length + n) (grownCap w (cs.length + n) cap e))
          (w.drew.alloc (.cells ((cs ++ List.replicate n z).toArray ++ Builtin.zeroCells z.cells (grownCap w (cs.length + n) cap e - (cs.length + n))) e)) := by
    intro base cap hg hold
    have hn : ¬ (cs.length + n ≤ cap) := by omega
    have h63' : ¬ (9223372036854775807 < ((cs.length : Int) + (n : Int))) := by omega
    have h48' : ¬ (281474976710656 < Builtin.nextslicecap (cs.length + n) cap * i.bytes) := by have := hfit cap hg; omega
    by_cases hn0 : n = 0
    · subst hn0
      simp only [Nat.add_zero] at hn h48' hg
      have h63 : ¬ (9223372036854775807 < (cs.length : Int)) := by omega
      simp [Builtin.append_, run_underlying ht, run_underlying hx, sizeOf, typeInfo, zeroValue, hi, hzz, hs, hw0, hn, h48', h63, Question.forced, hold, newRow, grownCap, asInt, asIntOf]
    · simp [Builtin.append_, run_underlying ht, run_underlying hx, sizeOf, typeInfo, zeroValue, hi, hzz, hs, hw, h0, hb1, hn, hn0, h48', h63', Question.forced, hold, hzc, newRow, grownCap, asInt, asIntOf]
      congr 2
      apply Array.ext'
      simp [List.append_assoc]
  rcases hown.forms with ⟨rfl, rfl⟩ | ⟨g, cap, cur, rfl, hbg, hr, hl, hcs, htk, hcap⟩
  · by_cases hn0 : n = 0
    · subst hn0
      refine ⟨.slice none 0 0, w, ?_, Own.nil _ _ _, ⟨rfl, rfl, rfl, Nat.le_refl _, fun _ _ _ => rfl⟩, .inl rfl⟩
      simp [Builtin.append_, run_underlying ht, run_underlying hx, sizeOf, typeInfo, hi, hw0, asInt, asIntOf]
    · have hr := grow none 0 (by simp; omega) (by simp [Builtin.firstCells])
      exact ⟨_, _, hr, app_grow (w := w) (cs := []) (news := List.replicate n z) hz hB _ 0 (by simp) (by simpa using hm)⟩
  · by_cases hroom : cs.length + n ≤ cap
    · have hc : ∀ j, j < (List.replicate n z).length → (w.cell? ⟨g, cs.length + j, none⟩).isSome = true := fun j hj => by
        rw [hlen] at hj
        rw [hr.cell (v := cur[cs.length + j]'(by omega)) (by rw [Array.getElem?_eq_getElem])]; rfl
      have hst := run_storeCells_cells (P := P) g cs.length (List.replicate n z) 0 w (by simpa using hc) (by intro j _; simpa using hr.unfrozen _) hz1'
      simp only [Nat.add_zero] at hst
      have hout := app_room (news := List.replicate n z) hown (by rw [hlen]; exact hroom)
      rw [hlen] at hout
      refine ⟨_, _, ?_, hout⟩
      by_cases hn0 : n = 0
      · subst hn0
        simp only [Nat.add_zero] at hroom
        simp [Builtin.append_, run_underlying ht, run_underlying hx, sizeOf, typeInfo, hi, hs, hw0, hroom, asInt, asIntOf]
        rfl
      · simp [Builtin.append_, run_underlying ht, run_underlying hx, sizeOf, typeInfo, zeroValue, hi, hzz, hs, hw, h0, hb1, hn0, hroom, hzc, Addr.add_lit, hst, asInt, asIntOf]
    · have hold : (Builtin.firstCells 1 cs.length (.slice (some ⟨g, 0, none⟩) cs.length cap)).run P w.drew = .ok cs.toArray w.drew := by
        refine run_firstCells_some (P := P) w.drew 1 cs.length ⟨g, 0, none⟩ cs.length cap cs (by rw [Nat.mul_one]) fun j u hu => ?_
        rw [Addr.add_lit, Nat.zero_add]
        exact hown.parts.2.2.2.2.2.1 j u hu
      exact ⟨_, _, grow _ cap (by omega) hold, app_grow hz hB _ cap (by simp) hm⟩

theorem Cells.src {P : Program} {w : World} {x : Value} {news : List Value} {tx e' : TypeId} (hk : P.underlying tx = some (.slice e')) (h : Cells w x news) (h1 : ∀ u ∈ news, u.oneCell' = true) : Src P 1 tx x news.length news w := by
  obtain ⟨a, cap, rfl, hl, hn, hc⟩ := h
  cases a with
  | none =>
    obtain rfl := hn rfl
    have : news = [] := by
      cases news with
      | nil => rfl
      | cons u l => obtain ⟨ad, h, _⟩ := hc 0 u rfl; cases h
    subst this
    exact Src.ofNil w hk 0
  | some ad =>
    exact Src.ofSlice w hk ad news.length cap news (by simp) (fun j u hu => by obtain ⟨ad', e1, e2⟩ := hc j u hu; obtain rfl := Option.some.inj e1; exact e2) h1

theorem Own.slice {w : World} {B : Nat} {e : TypeId} {v : Value} {cs : List Value} (h : Own w B e v cs) : ∃ a c, v = .slice a cs.length c := by
  rcases h.forms with ⟨rfl, rfl⟩ | ⟨g, cap, cur, rfl, _⟩
  · exact ⟨_, _, rfl⟩
  · exact ⟨_, _, rfl⟩
section
variable {P : Program} {w : World} {ops : Array Oper} {rest : List Oper} {o : Oper} {a : Act} {Q : Exit → Act → World → Prop} {K : Act → World → Prop} {E : Prop}
theorem wp_appx (s x : Operand) (t tx e : TypeId) (z : Value) (bytes : Nat) (ho : o.op = .call { callee := .builtin .append, args := #[s, x], argTypes := #[t, tx] }) (ht : P.underlying t = some (.slice e))
    (hi : (P.info? e).map (fun i => (i.zero, i.size, i.bytes)) = some (some z, 1, bytes)) (hz : z.cells = #[z])
    {B : Nat} {v : Value} {cs : List Value} (hs : a.eval s = v) (hown : Own w B e v cs) {xv : Value} {news : List Value} (hxv : a.eval x = xv) (hx : Src P 1 tx xv news.length news w)
    (hm : cs.length + news.length ≤ maxLen) (hb : (2 * (cs.length + news.length) + 768) * bytes ≤ 281474976710656) (hB : B ≤ w.heap.size)
    (N : Nat) (hN : N = cs.length + news.length) (hK : ∀ ad c w', AppOut w B e v (cs ++ news) (.slice ad N c) w' → K (a.put o.dst (.slice ad N c)) w') : Oper.wp P o a w K Q := by
  obtain ⟨v', w', h2, h3⟩ := run_appx (P := P) w t tx o.type e z bytes ht hi hz hown hx hm hb hB
  unfold Oper.wp execOp
  simp only [ho, resolve, invoke, builtin, Sem.run_bind, Sem.run_pure, Result.andThen_ok, List.map_toArray, List.map_cons, List.map_nil, hs, hxv, h2]
  obtain ⟨ad, c, rfl⟩ := h3.1.slice
  rw [List.length_append, ← hN] at h3 ⊢
  exact hK ad c w' h3
theorem wp_appz (s x : Operand) (t tx e : TypeId) (z : Value) (bytes : Nat) (ho : o.op = .call { callee := .builtin .append, args := #[s, x], argTypes := #[t, tx] }) (ht : P.underlying t = some (.slice e)) (htx : P.underlying tx = some (.int .i64))
    (hi : (P.info? e).map (fun i => (i.zero, i.size, i.bytes)) = some (some z, 1, bytes)) (hz : z.cells = #[z]) (hz1 : z.oneCell' = true)
    {B : Nat} {v : Value} {cs : List Value} (hs : a.eval s = v) (hown : Own w B e v cs) (n : Nat) (hxv : a.eval x = .int .i64 (n : Int))
    (hm : cs.length + n ≤ maxLen) (hb : (2 * (cs.length + n) + 768) * bytes ≤ 281474976710656) (hB : B ≤ w.heap.size)
    (N : Nat) (hN : N = cs.length + n) (hK : ∀ ad c w', AppOut w B e v (cs ++ List.replicate n z) (.slice ad N c) w' → K (a.put o.dst (.slice ad N c)) w') : Oper.wp P o a w K Q := by
  obtain ⟨v', w', h2, h3⟩ := run_app_zeros (P := P) w t tx o.type e z bytes ht htx hi hz hz1 hown n hm hb hB
  unfold Oper.wp execOp
  simp only [ho, resolve, invoke, builtin, Sem.run_bind, Sem.run_pure, Result.andThen_ok, List.map_toArray, List.map_cons, List.map_nil, hs, hxv, h2]
  obtain ⟨ad, c, rfl⟩ := h3.1.slice
  rw [List.length_append, List.length_replicate, ← hN] at h3 ⊢
  exact hK ad c w' h3
theorem step_of_wp (hg : o.guard = none) (h : Oper.wp P o a w K Q) : if Region.wanted o (yielded ops a.tmps) = true then Oper.wp P o a w K Q else E := by
  have hw : Region.wanted o (yielded ops a.tmps) = true := by simp [Region.wanted, hg]
  rw [if_pos hw]; exact h
theorem list_of_wp (hg : o.guard = none) (h : ∀ K : Act → World → Prop, (∀ a w, wpList P ops Q rest a w → K a w) → Oper.wp P o a w K Q) : wpList P ops Q (o :: rest) a w := wpList_plain hg h
end
end Go.Proofs.YthkbbcdnmdjhdaaGreat
/-! XStr: Bytes turned to a string: the law for the walk. No statement about the program. -/
namespace Go.Proofs.YthkbbcdnmdjhdaaGreat
open Go.RowKit

/-! ### bytes to a string -/
/-- The string of these bytes. -/
def bstr (l : List UInt8) : ByteArray := ⟨l.toArray⟩
theorem bstr_inj {l k : List UInt8} : bstr l = bstr k ↔ l = k := by
  unfold bstr
  constructor
  · intro h
    injection h with h
    simpa using h
  · rintro rfl; rfl
theorem bstr_toList (l : List UInt8) : (bstr l).toList = l := by
  rw [ByteArray.toList_eq]; rfl
theorem bstr_size (l : List UInt8) : (bstr l).size = l.length := rfl
theorem foldl_push (l : List UInt8) : ∀ s : ByteArray, (l.map fun x => ((x.toNat : Nat) : Int)).foldl (fun r n => r.push (UInt8.ofNat n.toNat)) s = ⟨s.data ++ l.toArray⟩ := by
  induction l with
  | nil => intro s; simp
  | cons x l ih =>
    intro s
    rw [List.map_cons, List.foldl_cons, ih]
    simp [ByteArray.push]
theorem run_tostr {P : Program} {w : World} {src dst e : TypeId} {v : Value} {l : List UInt8}
    (hs : P.underlying src = some (.slice e)) (he : P.underlying e = some (.int .u8)) (hd : P.underlying dst = some .string) (h : Bytes w v l) :
    (convert src dst v).run P w = .ok (.string (bstr l)) w := by
  obtain ⟨a, cap, rfl, hl, hn, hc⟩ := h
  rw [run_convert_bytes_string w src dst e a _ cap hs he hd]
  cases a with
  | none =>
    have : l = [] := by
      cases l with
      | nil => rfl
      | cons u l => obtain ⟨ad, h, _⟩ := hc 0 (bv u) rfl; cases h
    subst this
    rfl
  | some ad =>
    have hld := run_firstCells_some (P := P) w 1 (bvs l).length ad (bvs l).length cap (bvs l) (by simp)
      (fun j u hu => by obtain ⟨ad', e1, e2⟩ := hc j u hu; obtain rfl := Option.some.inj e1; exact e2)
    have e1 : bvs l = (l.map fun x => ((x.toNat : Nat) : Int)).map (Value.int .u8) := by rw [List.map_map]; rfl
    have hld2 : (loadCells ad (bvs l).length).run P w = .ok ((l.map fun x => ((x.toNat : Nat) : Int)).map (Value.int .u8)).toArray w := by
      rw [← e1]
      simpa [Builtin.firstCells] using hld
    rw [run_bytesToString w ad _ cap _ hld2, foldl_push]
    congr 3
    simp
theorem wpList_tostr {P : Program} {w : World} {ops : Array Oper} {rest : List Oper} {o : Oper} {a : Act} {Q : Exit → Act → World → Prop} (hg : o.guard = none) (x : Operand) (src dst e : TypeId) (ho : o.op = .convert src dst x)
    (hs : P.underlying src = some (.slice e)) (he : P.underlying e = some (.int .u8)) (hd : P.underlying dst = some .string) {v : Value} {l : List UInt8} (hv : a.eval x = v) (h : Bytes w v l)
    (hK : wpList P ops Q rest (a.put o.dst (.string (bstr l))) w) : wpList P ops Q (o :: rest) a w := by
  refine wpList_plain hg fun K hK' => ?_
  unfold Oper.wp execOp
  simp only [ho, Sem.run_bind, Sem.run_pure, Result.andThen_ok, hv, run_tostr hs he hd h]
  exact hK' _ _ hK

end Go.Proofs.YthkbbcdnmdjhdaaGreat
/-! XIn: What comes in, opened: from a reading of an argument as data to the predicates of the walks (bytes, rows of bytes, numbers, arrays of numbers). No statement about the program. -/
namespace Go.Proofs.YthkbbcdnmdjhdaaGreat
open Go.RowKit Go.WideShapes

/-- The slice value v reads as these rows of bytes. -/
def BRows (w : World) (v : Value) (ls : List (List UInt8)) : Prop :=
  ∃ vs : List Value, Cells w v vs ∧ vs.length = ls.length ∧ ∀ (i : Nat) (u : Value) (l : List UInt8), vs[i]? = some u → ls[i]? = some l → Bytes w u l
theorem BRows.ext {w w' : World} {v : Value} {ls : List (List UInt8)} (h : BRows w v ls) (hx : Ext w w') : BRows w' v ls := by
  obtain ⟨vs, h1, h2, h3⟩ := h
  exact ⟨vs, h1.ext hx, h2, fun i u l hu hl => (h3 i u l hu hl).ext hx⟩
/-- The slice value v reads as these numbers of kind int. -/
abbrev ivs (l : List Int) : List Value := l.map (Value.int .i64)
abbrev Ints (w : World) (v : Value) (l : List Int) : Prop := Cells w v (ivs l)

section
variable {H : Type} {enc : TypeId × Value → H} {P : Program} {w : World} {base : Nat} {spare : Nat → Bool} {held : Bool}

theorem cells_one {a : Addr} {cs : List Value} (h : w.cells? base a 1 = some cs) : ∃ u, cs = [u] ∧ w.cell? a = some u := by
  unfold World.cells? at h
  split at h
  · have h0 : a.add 0 = a := by simp [Addr.add]
    simp only [List.range_one, List.mapM_cons, List.mapM_nil, h0] at h
    cases hc : w.cell? a with
    | none => rw [hc] at h; cases h
    | some u =>
      rw [hc] at h
      simp at h
      exact ⟨u, h.symm, rfl⟩
  · cases h

/-- A slice whose elements are one cell each. -/
theorem in_slice {t e : TypeId} (ht : P.underlying t = some (.slice e)) (hc : P.cellsOf e = 1) {fuel : Nat} {cs : List Value} {x : DataW H × List MemPlace}
    (h : DataW.trod enc P w base spare held fuel t cs = some x) :
    ∃ v vs m, cs = [v] ∧ Cells w v vs ∧ vs.length ≤ maxLen ∧ ∀ (i : Nat) (u : Value), vs[i]? = some u → ∃ y, DataW.trod enc P w base spare held m e [u] = some y := by
  rcases Go.Deep.open_slice ht h with ⟨rfl, _⟩ | ⟨a, len, cap, m, n, D, Pl, rfl, _, hl, hcap, hm, _, hel⟩
  · exact ⟨_, [], 0, rfl, Cells.nil w, by simp, by simp⟩
  · have hlm : len ≤ m := by rw [hm]; split <;> omega
    obtain ⟨f, hf⟩ := Go.Deep.choose_lt (α := Value) (n := len) (p := fun i u => w.cell? (a.add i) = some u ∧ ∃ y, DataW.trod enc P w base spare held n e [u] = some y)
      (fun i hi => by
        obtain ⟨cs', h1, h2⟩ := hel i (by omega)
        rw [hc, Nat.mul_one] at h1
        obtain ⟨u, rfl, hu⟩ := cells_one h1
        exact ⟨u, hu, _, h2⟩)
    refine ⟨_, (List.range len).map f, n, rfl, ⟨some a, cap, by simp, by simpa using hl, (fun h => by cases h), fun j u hu => ?_⟩, by simp; omega, fun i u hu => ?_⟩
    · have hj : j < len := by have := (List.getElem?_eq_some_iff.1 hu).1; simpa using this
      simp [hj] at hu
      exact ⟨a, rfl, by rw [← hu]; exact (hf j hj).1⟩
    · have hj : i < len := by have := (List.getElem?_eq_some_iff.1 hu).1; simpa using this
      simp [hj] at hu
      rw [← hu]; exact (hf i hj).2

theorem list_choose {α β : Type} {p : α → β → Prop} : ∀ (l : List α), (∀ (i : Nat) (u : α), l[i]? = some u → ∃ y, p u y) → ∃ k : List β, k.length = l.length ∧ ∀ (i : Nat) (u : α) (y : β), l[i]? = some u → k[i]? = some y → p u y
  | [], _ => ⟨[], rfl, by simp⟩
  | a :: l, h => by
    obtain ⟨y, hy⟩ := h 0 a rfl
    obtain ⟨k, hk, hp⟩ := list_choose l (fun i u hu => h (i + 1) u (by simpa using hu))
    refine ⟨y :: k, by simp [hk], fun i u z hu hz => ?_⟩
    cases i with
    | zero => simp at hu hz; subst hu hz; exact hy
    | succ i => exact hp i u z (by simpa using hu) (by simpa using hz)

theorem in_bytes {t e : TypeId} (ht : P.underlying t = some (.slice e)) (he : P.underlying e = some (.int .u8)) (hc : P.cellsOf e = 1) {fuel : Nat} {cs : List Value} {x : DataW H × List MemPlace}
    (h : DataW.trod enc P w base spare held fuel t cs = some x) : ∃ v l, cs = [v] ∧ Bytes w v l ∧ l.length ≤ maxLen := by
  obtain ⟨v, vs, m, rfl, h1, h2, h3⟩ := in_slice ht hc h
  obtain ⟨l, hl, hp⟩ := list_choose (p := fun (u : Value) (y : UInt8) => u = bv y) vs (fun i u hu => by
    obtain ⟨y, hy⟩ := h3 i u hu
    obtain ⟨n, e1, _, hw⟩ := DataW.trod_int he hy
    obtain ⟨z, rfl⟩ := u8_of_wf hw
    simp at e1
    exact ⟨z, e1⟩)
  have : vs = bvs l := by
    apply List.ext_getElem?
    intro i
    cases hv : vs[i]? with
    | none => rw [List.getElem?_eq_none_iff] at hv; rw [List.getElem?_eq_none (by rw [bvs_len]; omega)]
    | some u =>
      have hi : i < l.length := by have := (List.getElem?_eq_some_iff.1 hv).1; omega
      rw [hp i u l[i] hv (List.getElem?_eq_getElem hi), bvs_get hi]
  rw [this] at h1 h2
  rw [bvs_len] at h2
  exact ⟨v, l, rfl, h1, h2⟩

theorem in_rows {t b e : TypeId} (ht : P.underlying t = some (.slice b)) (hb : P.underlying b = some (.slice e)) (he : P.underlying e = some (.int .u8)) (hcb : P.cellsOf b = 1) (hc : P.cellsOf e = 1) {fuel : Nat} {cs : List Value} {x : DataW H × List MemPlace}
    (h : DataW.trod enc P w base spare held fuel t cs = some x) : ∃ v ls, cs = [v] ∧ BRows w v ls ∧ ls.length ≤ maxLen ∧ ∀ l ∈ ls, l.length ≤ maxLen := by
  obtain ⟨v, vs, m, rfl, h1, h2, h3⟩ := in_slice ht hcb h
  obtain ⟨ls, hl, hp⟩ := list_choose (p := fun (u : Value) (l : List UInt8) => Bytes w u l ∧ l.length ≤ maxLen) vs (fun i u hu => by
    obtain ⟨y, hy⟩ := h3 i u hu
    obtain ⟨v', l, e1, h4, h5⟩ := in_bytes hb he hc hy
    simp at e1
    subst e1
    exact ⟨l, h4, h5⟩)
  refine ⟨v, ls, rfl, ⟨vs, h1, hl.symm, fun i u l hu hl' => (hp i u l hu hl').1⟩, by omega, fun l hm => ?_⟩
  obtain ⟨i, hi⟩ := List.getElem?_of_mem hm
  have : i < vs.length := by have := (List.getElem?_eq_some_iff.1 hi).1; omega
  exact (hp i _ l (List.getElem?_eq_getElem this) hi).2

theorem in_ints {t e : TypeId} (ht : P.underlying t = some (.slice e)) (he : P.underlying e = some (.int .i64)) (hc : P.cellsOf e = 1) {fuel : Nat} {cs : List Value} {x : DataW H × List MemPlace}
    (h : DataW.trod enc P w base spare held fuel t cs = some x) : ∃ v l, cs = [v] ∧ Ints w v l ∧ l.length ≤ maxLen ∧ ∀ z ∈ l, (Lit.int .i64 z).wf = true := by
  obtain ⟨v, vs, m, rfl, h1, h2, h3⟩ := in_slice ht hc h
  obtain ⟨l, hl, hp⟩ := list_choose (p := fun (u : Value) (y : Int) => u = .int .i64 y ∧ (Lit.int .i64 y).wf = true) vs (fun i u hu => by
    obtain ⟨y, hy⟩ := h3 i u hu
    obtain ⟨n, e1, _, hw⟩ := DataW.trod_int he hy
    simp at e1
    exact ⟨n, e1, hw⟩)
  have : vs = ivs l := by
    apply List.ext_getElem?
    intro i
    cases hv : vs[i]? with
    | none => rw [List.getElem?_eq_none_iff] at hv; rw [List.getElem?_eq_none (by simp; omega)]
    | some u =>
      have hi : i < l.length := by have := (List.getElem?_eq_some_iff.1 hv).1; omega
      rw [(hp i u l[i] hv (List.getElem?_eq_getElem hi)).1]; simp [hi]
  refine ⟨v, l, rfl, by rw [this] at h1; exact h1, by omega, fun z hz => ?_⟩
  obtain ⟨i, hi⟩ := List.getElem?_of_mem hz
  have : i < vs.length := by have := (List.getElem?_eq_some_iff.1 hi).1; omega
  exact (hp i _ z (List.getElem?_eq_getElem this) hi).2

theorem okWide_array {r : Reach} {b0 n : Nat} {t e : TypeId} {v : Value} (ht : P.underlying t = some (.array n e)) (h : Value.okWide P w r b0 t v) : ∃ cs, v = .agg cs ∧ cs.size = P.cellsOf t := by
  simp only [Value.okWide, ht] at h
  obtain ⟨cs, h1, h2, _⟩ := h
  exact ⟨cs, h1, h2⟩
/-- An array of numbers, by value. -/
theorem in_array {r : Reach} {b0 n : Nat} {t e : TypeId} {k : IntKind} {v : Value} {d : DataW H} {p : List MemPlace} (ht : P.underlying t = some (.array n e)) (he : P.underlying e = some (.int k)) (hc : P.cellsOf e = 1) (hn : P.cellsOf t = n)
    (hv : Value.okWide P w r b0 t v) (h : DataW.Trod enc P w base spare held t v d p) :
    ∃ l : List Int, l.length = n ∧ v = .agg (l.map (Value.int k)).toArray ∧ ∀ z ∈ l, (Lit.int k z).wf = true := by
  obtain ⟨cs, rfl, hs⟩ := okWide_array ht hv
  obtain ⟨fuel, hf⟩ := h
  obtain ⟨xs, m, _, _, h1, h2, h3⟩ := DataW.trod_array ht hf
  rw [hn] at hs
  have key : ∀ (i : Nat) (u : Value), cs.toList[i]? = some u → ∃ y : Int, u = .int k y ∧ (Lit.int k y).wf = true := by
    intro i u hu
    have hi : i < n := by have := (List.getElem?_eq_some_iff.1 hu).1; simp at this; omega
    have h4 := h3 i hi
    rw [hc, Nat.mul_one] at h4
    have hu' : ((Value.agg cs).cells.toList.drop i).take 1 = [u] := by
      show (cs.toList.drop i).take 1 = [u]
      apply List.ext_getElem?
      intro j
      rw [List.getElem?_take]
      cases j with
      | zero => simpa using hu
      | succ j => simp
    rw [hu', List.getElem?_eq_getElem (by omega : i < xs.length)] at h4
    obtain ⟨z, e1, _, hw⟩ := DataW.trod_int he h4
    simp at e1
    exact ⟨z, e1, hw⟩
  obtain ⟨l, hl, hp⟩ := list_choose (p := fun (u : Value) (y : Int) => u = .int k y ∧ (Lit.int k y).wf = true) cs.toList key
  refine ⟨l, by rw [hl]; simpa using hs, ?_, fun z hz => ?_⟩
  · congr 1
    apply Array.ext_getElem?
    intro i
    rw [← Array.getElem?_toList]
    cases hv : cs.toList[i]? with
    | none =>
      rw [List.getElem?_eq_none_iff, ← hl] at hv
      simp [List.getElem?_eq_none hv]
    | some u =>
      have hi : i < l.length := by have := (List.getElem?_eq_some_iff.1 hv).1; omega
      rw [(hp i u l[i] hv (List.getElem?_eq_getElem hi)).1]; simp [hi]
  · obtain ⟨i, hi⟩ := List.getElem?_of_mem hz
    have : i < cs.toList.length := by have := (List.getElem?_eq_some_iff.1 hi).1; omega
    exact (hp i _ z (List.getElem?_eq_getElem this) hi).2
end
theorem list_two {α : Type} {l : List α} (h : l.length = 2) : ∃ a b, l = [a, b] := by
  match l, h with
  | [a, b], _ => exact ⟨a, b, rfl⟩
theorem list_three {α : Type} {l : List α} (h : l.length = 3) : ∃ a b c, l = [a, b, c] := by
  match l, h with
  | [a, b, c], _ => exact ⟨a, b, c, rfl⟩
theorem nat_of_wf16 {a : Int} (h : (Lit.int .u16 a).wf = true) : ∃ x : Nat, a = (x : Int) ∧ x < 65536 := by
  simp [Lit.wf] at h
  have h1 := h.1
  have h2 := h.2
  simp [IntKind.max, IntKind.min, IntKind.signed, IntKind.bits] at h1 h2
  exact ⟨a.toNat, by omega, by omega⟩
theorem nat_of_wf32 {a : Int} (h : (Lit.int .u32 a).wf = true) : ∃ x : Nat, a = (x : Int) ∧ x < 4294967296 := by
  simp [Lit.wf] at h
  have h1 := h.1
  have h2 := h.2
  simp [IntKind.max, IntKind.min, IntKind.signed, IntKind.bits] at h1 h2
  exact ⟨a.toNat, by omega, by omega⟩
theorem int_of_wf {a : Int} (h : (Lit.int .i64 a).wf = true) : -9223372036854775808 ≤ a ∧ a ≤ 9223372036854775807 := by
  simp [Lit.wf] at h
  have h1 := h.1
  have h2 := h.2
  simp [IntKind.min, IntKind.signed, IntKind.bits] at h1 h2
  omega
end Go.Proofs.YthkbbcdnmdjhdaaGreat
/-! XShare: What both the rows' texts and the disks' texts lean on: bytes.Clone, nil slices. No statement about the program. -/
namespace Go.Proofs.YthkbbcdnmdjhdaaGreat
open Go.RowKit
set_option maxRecDepth 100000
set_option maxHeartbeats 4000000
attribute [local go_sem] min_int2 max_int2 bstr_toList

theorem setCell_size (w : World) (p : Addr) (u : Value) : (w.setCell p u).heap.size = w.heap.size := by unfold World.setCell; simp
theorem info_u8' : (Tryz.prog.info? 5).map (fun i => (i.zero, i.size, i.bytes)) = some (some (.int .u8 0), 1, 1) := by kernel_rfl
theorem nil_bytes : ∀ (w : World) (a : Option Addr) (n c n' c' : Nat), (binOp .eql 24 (.slice a n c) (.slice none n' c')).run Tryz.prog w = .ok (.bool a.isNone) w := fun w a n c n' c' => Lib.run_eql_slice_nil w _ _ a n c n' c' Tryz.underlying24
theorem Bytes.slice {w : World} {v : Value} {l : List UInt8} (h : Bytes w v l) : ∃ a c, v = .slice a l.length c := by
  obtain ⟨a, c, e, -⟩ := h
  exact ⟨a, c, by rw [e, bvs_len]⟩
theorem bclone_own (v : Value) (l : List UInt8) (hl : l.length ≤ 140737488351232) (w : World) (hb : Bytes w v l) :
    Calls Tryz.prog 85 #[v] w fun e w' => ∃ u, e = .returned u ∧ Own w' w.heap.size 5 u (bvs l) ∧ Ext w w' := by
  obtain ⟨a, c, rfl⟩ := hb.slice
  have q := nil_bytes
  cases a with
  | none =>
    have hl0 : l = [] := by
      obtain ⟨a', cap', e, h1, h2, _⟩ := hb
      simp only [Value.slice.injEq] at e
      obtain ⟨rfl, e2, rfl⟩ := e
      have := h2 rfl
      rw [bvs_len] at h1
      exact List.length_eq_zero_iff.1 (by omega)
    subst hl0
    go_enter Tryz.func85, Tryz.ntmps85
    go_wp2
    go_ret
    exact ⟨_, rfl, Own.nil _ _ _, Ext.refl _⟩
  | some ad =>
    have HB := Lib.hid hb
    clear hb
    have o0 : Own (w.alloc (.cells #[] 5)) w.heap.size 5 (.slice (some ⟨w.heap.size, 0, none⟩) 0 0) (bvs []) := Own.new w w.heap.size 5 #[] (Nat.le_refl _) (by decide)
    have y3 : Ext w (w.alloc (.cells #[] 5)) := (Ext.refl w).alloc (Nat.le_refl _) _
    go_enter Tryz.func85, Tryz.ntmps85
    go_wp2_with (at_builtin; refine list_of_wp rfl fun K hK => wp_appx _ _ 24 24 5 (.int .u8 0) 1 rfl Tryz.underlying24 info_u8' rfl rfl o0 rfl (Cells.src Tryz.underlying24 (HB.out.ext y3) (bvs_one _)) (by rw [bvs_len, bvs_len]; simp [maxLen]; omega) (by rw [bvs_len, bvs_len]; simp; omega) y3.size l.length (by rw [bvs_len, bvs_len]; simp) fun ad4 c4 w4 ha4 => hK _ _ ?_)
    go_ret
    exact ⟨_, rfl, ha4.1, Below.grown y3 ha4.2.1 y3.size (fun k hk => by have hk' : some w.heap.size = some k := hk; injection hk' with hk'; omega)⟩
theorem nil_rows (w : World) : BRows w (.slice none 0 0) [] := ⟨[], Cells.nil w, rfl, by simp⟩
theorem str_conv {w : World} {v : Value} {l : List UInt8} (h : Bytes w v l) : ∀ W, Ext w W → (convert 24 9 v).run Tryz.prog W = .ok (.string (bstr l)) W :=
  fun _ hx => run_tostr Tryz.underlying24 Tryz.underlying5 Tryz.underlying9 (h.ext hx)
end Go.Proofs.YthkbbcdnmdjhdaaGreat
/-! XUntil: Regions that draw their order, in which a cell is read and then written: a read may be taken first, if the cell is as it was till the first write (operation k), and the write waits for the read. No statement about the program. -/
namespace Go.Proofs.YthkbbcdnmdjhdaaGreat
section
variable {P : Program} {ops : Array Oper} {Q : Exit → Act → World → Prop} {md : Region.Mode} {S : World → Prop} {k : Nat}

/-- Whatever comes next; till operation k has come, S holds behind each. -/
def wpU (P : Program) (md : Region.Mode) (ops : Array Oper) (Q : Exit → Act → World → Prop) (S : World → Prop) (k : Nat) : Nat → Array Bool → Act → World → Prop
  | 0, listed, a, w => Region.ready md ops listed = [] ∧ Q .normal a w
  | fuel + 1, listed, a, w =>
    (Region.ready md ops listed = [] → Q .normal a w) ∧
    ∀ i ∈ Region.ready md ops listed, wpOp P ops Q i (fun a' w' => ((listed.setIfInBounds i true).getD k true = false → S w') ∧ wpU P md ops Q S k fuel (listed.setIfInBounds i true) a' w') a w
theorem wpAny_of_U : ∀ (fuel : Nat) (listed : Array Bool) (a : Act) (w : World), wpU P md ops Q S k fuel listed a w → wpAny P md ops Q fuel listed a w
  | 0, _, _, _, h => h
  | fuel + 1, _, _, _, h => ⟨h.1, fun i hi => wpOp_mono (fun a' w' h' => wpAny_of_U fuel _ a' w' h'.2) (h.2 i hi)⟩

def Waits (md : Region.Mode) (ops : Array Oper) (k i : Nat) : Bool := match ops[k]? with
  | some o => o.after.any fun e => Region.binds md e && e.on == i
  | none => false
theorem Waits.not_ready {i : Nat} {listed : Array Bool} (h : Waits md ops k i = true) (hl : listed.getD i true = false) (hr : k ∈ Region.ready md ops listed) : False := by
  obtain ⟨_, o, ho, hall⟩ := mem_ready.1 hr
  unfold Waits at h
  rw [ho] at h
  obtain ⟨e, he, hb⟩ := Array.any_eq_true'.1 h
  simp only [Bool.and_eq_true, beq_iff_eq] at hb
  have h1 := hall e he hb.1
  rw [hb.2] at h1
  rcases Nat.lt_or_ge i listed.size with h' | h'
  · simp [h'] at hl h1
    rw [hl] at h1
    cases h1
  · simp [Array.getElem?_eq_none h'] at h1

theorem wpU_first {T : World → Prop} {i : Nat} {oi : Oper} {v : Value} (hi : ops[i]? = some oi) (hsel : ∀ (j : Nat) (o : Oper) cs b, ops[j]? = some o → o.op ≠ .select cs b)
    (hQ : ∀ c a w, Q (.panic c) (a.put oi.dst v) w → Q (.panic c) a w) (hki : k ≠ i) (hk : (∀ w, T w) ∨ (Waits md ops k i = true ∧ ∀ w, S w → T w)) :
    ∀ (fuel : Nat) (listed : Array Bool) (a : Act) (w : World),
      (∀ j oj, ops[j]? = some oj → j ≠ i → listed.getD j true = false → (∀ e ∈ oj.after, Region.binds md e = true → e.on ≠ i) → oi.apart ops oj = true) →
      i ∈ Region.ready md ops listed → YieldsIf P ops T oi v a → T w → (listed.getD k true = false → S w) → ((∀ w, T w) ∨ listed.getD k true = false) →
      wpU P md ops Q S k fuel (listed.setIfInBounds i true) (a.put oi.dst v) w → wpU P md ops Q S k (fuel + 1) listed a w := by
  intro fuel
  induction fuel with
  | zero =>
    intro listed a w _ hr hy hT hS _ H
    refine ⟨fun h => (by rw [h] at hr; cases hr), fun j hj => ?_⟩
    by_cases hji : j = i
    · subst hji
      exact hy.wpOp hi hT ⟨fun h => hS (by rw [getD_set_ne true (Ne.symm hki)] at h; exact h), H⟩
    · have := ready_mono hj hji
      rw [H.1] at this
      cases this
  | succ fuel ih =>
    intro listed a w hfree hr hy hT hS hlk H
    refine ⟨fun h => (by rw [h] at hr; cases hr), fun j hj => ?_⟩
    by_cases hji : j = i
    · subst hji
      exact hy.wpOp hi hT ⟨fun h => hS (by rw [getD_set_ne true (Ne.symm hki)] at h; exact h), H⟩
    · have hiun := (mem_ready.1 hr).1
      obtain ⟨hjun, oj, hoj, hall⟩ := mem_ready.1 hj
      have hnot : ∀ e ∈ oj.after, Region.binds md e = true → e.on ≠ i := fun e he hb heq => by
        have h1 := hall e he hb
        rw [heq] at h1
        rcases Nat.lt_or_ge i listed.size with h' | h'
        · simp [h'] at hiun h1; rw [hiun] at h1; cases h1
        · simp [Array.getElem?_eq_none h'] at h1
      have step := wpOp_putIf hoj (hfree j oj hoj hji hjun hnot) (fun cs b => hsel i oi cs b hi) (fun cs b => hsel j oj cs b hoj) hQ hy (H.2 j (ready_mono hj hji))
      have back : ∀ w', ((((listed.setIfInBounds i true).setIfInBounds j true).getD k true = false) → S w') → ((listed.setIfInBounds j true).getD k true = false → S w') := fun w' h hl => h (by
        rw [Array.setIfInBounds_comm _ _ (Ne.symm hji), getD_set_ne true (Ne.symm hki)]
        exact hl)
      have hlk' : (∀ w, T w) ∨ (listed.setIfInBounds j true).getD k true = false := by
        rcases hlk with h | h
        · exact .inl h
        · rcases hk with h2 | ⟨h2, _⟩
          · exact .inl h2
          · refine .inr ?_
            rw [getD_set_ne true]
            · exact h
            · intro e
              exact Waits.not_ready h2 hiun (e ▸ hj)
      refine wpOp_mono (fun a' w' hn => ⟨back w' hn.2.1, ih (listed.setIfInBounds j true) a' w' (fun q oq hoq hqi hun hno => hfree q oq hoq hqi (by
          by_cases hjq : j = q
          · subst hjq; exact hjun
          · rw [getD_set_ne true hjq] at hun; exact hun) hno) (ready_mono hr (Ne.symm hji)) hn.1 ?_ (back w' hn.2.1) hlk' ?_⟩) step
      · rcases hlk' with h | h
        · exact h w'
        · rcases hk with h2 | ⟨_, h2⟩
          · exact h2 w'
          · exact h2 w' (back w' hn.2.1 h)
      · rw [Array.setIfInBounds_comm _ _ hji]
        exact hn.2.2

/-- Take an operation first that yields in whatever world. -/
theorem wpU_pure {i : Nat} {oi : Oper} {v : Value} {fuel : Nat} {listed : Array Bool} {a : Act} {w : World} (hi : ops[i]? = some oi)
    (hs : Region.noSelect ops = true) (hf : Region.free md ops listed i = true) (hr : (Region.ready md ops listed).contains i = true) (hki : k ≠ i)
    (hQ : ∀ c a w, Q (.panic c) (a.put oi.dst v) w → Q (.panic c) a w) (hS : listed.getD k true = false → S w) (hy : YieldsIf P ops (fun _ => True) oi v a)
    (h : wpU P md ops Q S k fuel (listed.setIfInBounds i true) (a.put oi.dst v) w) : wpU P md ops Q S k (fuel + 1) listed a w :=
  wpU_first hi (Region.noSelect_spec hs) hQ hki (.inl fun _ => trivial) fuel listed a w (Region.free_spec hi hf) (by simpa using hr) hy trivial hS (.inl fun _ => trivial) h
/-- Take a read first, for which k waits. -/
theorem wpU_load {i : Nat} {oi : Oper} {v : Value} {fuel : Nat} {listed : Array Bool} {a : Act} {w : World} (hi : ops[i]? = some oi)
    (hs : Region.noSelect ops = true) (hf : Region.free md ops listed i = true) (hr : (Region.ready md ops listed).contains i = true) (hki : k ≠ i) (hw : Waits md ops k i = true) (hl : listed.getD k true = false)
    (hQ : ∀ c a w, Q (.panic c) (a.put oi.dst v) w → Q (.panic c) a w) (hS : S w) (hy : YieldsIf P ops S oi v a)
    (h : wpU P md ops Q S k fuel (listed.setIfInBounds i true) (a.put oi.dst v) w) : wpU P md ops Q S k (fuel + 1) listed a w :=
  wpU_first hi (Region.noSelect_spec hs) hQ hki (.inr ⟨hw, fun _ h => h⟩) fuel listed a w (Region.free_spec hi hf) (by simpa using hr) hy hS (fun _ => hS) (.inr hl) h
theorem wpU_done {listed : Array Bool} {a : Act} {w : World} (hr : Region.ready md ops listed = []) (h : Q .normal a w) : ∀ fuel, wpU P md ops Q S k fuel listed a w
  | 0 => ⟨hr, h⟩
  | _ + 1 => ⟨fun _ => h, by rw [hr]; simp⟩
def ReadyU (P : Program) (md : Region.Mode) (ops : Array Oper) (Q : Exit → Act → World → Prop) (S : World → Prop) (k fuel : Nat) (listed : Array Bool) (a : Act) (w : World) (rs : List Nat) : Prop :=
  ∀ i ∈ rs, wpOp P ops Q i (fun a' w' => ((listed.setIfInBounds i true).getD k true = false → S w') ∧ wpU P md ops Q S k fuel (listed.setIfInBounds i true) a' w') a w
theorem wpU_all (rs : List Nat) {fuel : Nat} {listed : Array Bool} {a : Act} {w : World} (hr : Region.ready md ops listed = rs) (hne : rs ≠ []) (h : ReadyU P md ops Q S k fuel listed a w rs) : wpU P md ops Q S k (fuel + 1) listed a w :=
  ⟨fun h0 => absurd (hr ▸ h0) hne, hr ▸ h⟩
theorem ReadyU.nil {fuel : Nat} {listed : Array Bool} {a : Act} {w : World} : ReadyU P md ops Q S k fuel listed a w [] := fun _ h => by cases h
theorem ReadyU.cons {fuel : Nat} {listed : Array Bool} {a : Act} {w : World} {i : Nat} {o : Oper} {rs : List Nat} (ho : ops[i]? = some o)
    (h : ∀ K' : Act → World → Prop, Shut (∀ a w, ((listed.setIfInBounds i true).getD k true = false → S w) → wpU P md ops Q S k fuel (listed.setIfInBounds i true) a w → K' a w) → if Region.wanted o (yielded ops a.tmps) = true then Oper.wp P o a w K' Q else K' (a.put o.dst undef) w)
    (hs : ReadyU P md ops Q S k fuel listed a w rs) : ReadyU P md ops Q S k fuel listed a w (i :: rs) := fun j hj => by
  rcases List.mem_cons.1 hj with rfl | hj
  · exact wpOp_step ho fun K' hK => h K' fun a w hS hW => hK a w ⟨hS, hW⟩
  · exact hs j hj
theorem wp_region_U (S : World → Prop) (k : Nat) {id : Nat} {a : Act} {w : World} (hm : P.follows .mixedOrders = true)
    (h : wpU P .any ops Q S k ops.size (Array.replicate ops.size false) a w.drew) : (Code.region id ops true).wp P Q a w :=
  wp_region_any hm (wpAny_of_U _ _ _ _ h)
end

/-! A region's end told by a few words: which slots it may have written, what holds of the world. -/
def setAll (L : List Value) (slots : List Nat) (u : Nat → Value) : List Value := slots.foldl (fun l i => l.set i (u i)) L
def CutPost (L : List Value) (slots : List Nat) (d : List Deferred) (R : World → Prop) : Exit → Act → World → Prop
  | .normal, a', w' => R w' ∧ ∃ u, a' = ⟨(setAll L slots u).toArray, d⟩
  | _, _, _ => False
theorem wp_cut (slots : List Nat) (R : World → Prop) {P : Program} {id : Nat} {ops : Array Oper} {b : Bool} {Q : Exit → Act → World → Prop} {L : List Value} {d : List Deferred} {w : World}
    (h1 : (Code.region id ops b).wp P (CutPost L slots d R) ⟨L.toArray, d⟩ w) (h2 : ∀ (u : Nat → Value) (w' : World), R w' → Q .normal ⟨(setAll L slots u).toArray, d⟩ w') : (Code.region id ops b).wp P Q ⟨L.toArray, d⟩ w :=
  Code.wp_mono (fun e a' w' h => by
    cases e with
    | normal => obtain ⟨hR, u, rfl⟩ := h; exact h2 u w' hR
    | _ => exact h.elim) h1
theorem cut_end {L : List Value} {slots : List Nat} {d : List Deferred} {R : World → Prop} {F : List Value} {w : World} (hR : R w) (h : F = setAll L slots (fun i => F.getD i undef)) : CutPost L slots d R .normal ⟨F.toArray, d⟩ w :=
  ⟨hR, fun i => F.getD i undef, by rw [← h]⟩
end Go.Proofs.YthkbbcdnmdjhdaaGreat
/-! XBRows: Rows of bytes that the call owns, one block each; slices of slices. No statement about the program. -/
namespace Go.Proofs.YthkbbcdnmdjhdaaGreat
open Go.RowKit

theorem bvs_drop (m : Nat) (l : List UInt8) : bvs (l.drop m) = (bvs l).drop m := List.map_drop
theorem bvs_take (m : Nat) (l : List UInt8) : bvs (l.take m) = (bvs l).take m := List.map_take
theorem addr_add_add (a : Addr) (i j : Nat) : (a.add i).add j = a.add (i + j) := by
  unfold Addr.add
  by_cases hi : i = 0 <;> by_cases hj : j = 0 <;> simp [hi, hj, Nat.add_assoc]
theorem Cells.take {w : World} {a : Option Addr} {n cap : Nat} {cs : List Value} (h : Cells w (.slice a n cap) cs) (m : Nat) (hm : m ≤ n) : Cells w (.slice a m cap) (cs.take m) := by
  obtain ⟨a', cap', e, hl, hn, hc⟩ := h
  simp only [Value.slice.injEq] at e
  obtain ⟨rfl, rfl, rfl⟩ := e
  have hlen : (cs.take m).length = m := by rw [List.length_take]; omega
  refine ⟨a, cap, by rw [hlen], by omega, hn, fun j u hu => hc j u ?_⟩
  rw [List.getElem?_take] at hu
  split at hu
  · exact hu
  · cases hu
theorem Cells.drop {w : World} {a : Option Addr} {n cap : Nat} {cs : List Value} (h : Cells w (.slice a n cap) cs) (m : Nat) (hm : m ≤ n) :
    Cells w (.slice (if cap = m then a else a.map (·.add m)) (n - m) (cap - m)) (cs.drop m) := by
  obtain ⟨a', cap', e, hl, hn, hc⟩ := h
  simp only [Value.slice.injEq] at e
  obtain ⟨rfl, rfl, rfl⟩ := e
  refine ⟨_, cap - m, by rw [List.length_drop], by rw [List.length_drop]; omega, ?_, fun j u hu => ?_⟩
  · by_cases hcm : cap = m
    · intro _; omega
    · rw [if_neg hcm]; intro h2; have := hn (by simpa using h2); omega
  · rw [List.getElem?_drop] at hu
    obtain ⟨ad, h1, h2⟩ := hc _ u hu
    have hlt : m + j < cs.length := (List.getElem?_eq_some_iff.1 hu).1
    rw [if_neg (by omega), h1]
    refine ⟨_, rfl, ?_⟩
    show w.cell? ((ad.add m).add j) = _
    rw [addr_add_add]; exact h2

theorem run_slice1 {P : Program} {w : World} (t e : TypeId) (z : Value) (bytes : Nat) (ht : P.underlying t = some (.slice e)) (hi : (P.info? e).map (fun i => (i.zero, i.size, i.bytes)) = some (some z, 1, bytes))
    (a : Option Addr) (n cap l m : Nat) (hlm : l ≤ m) (hm : m ≤ n) (hn : n ≤ cap) (lo hi' : Option Value)
    (hlo : (lo = none ∧ l = 0) ∨ lo = some (.int .i64 (l : Int))) (hhi : (hi' = none ∧ m = n) ∨ hi' = some (.int .i64 (m : Int))) :
    (Instr.sliceAt t (.slice a n cap) lo hi' none).run P w = .ok (.slice (if cap = l then a else a.map (·.add l)) (m - l) (cap - l)) w := by
  obtain ⟨i, hi, _, hs, _⟩ := info_parts hi
  have hb : (Instr.sliceBounds true n cap lo hi' none).run P w = .ok (l, m, cap) w := by
    have hmc : m ≤ cap := Nat.le_trans hm hn
    rcases hlo with ⟨rfl, rfl⟩ | rfl <;> rcases hhi with ⟨rfl, rfl⟩ | rfl
    · simp [Instr.sliceBounds]
    · simp [Instr.sliceBounds, Instr.sliceBound, asIntOf, hmc]
    · simp [Instr.sliceBounds, Instr.sliceBound, asIntOf, hlm]
    · simp [Instr.sliceBounds, Instr.sliceBound, asIntOf, hlm, hmc]
  simp [Instr.sliceAt, Instr.slice, run_underlying ht, hb, sizeOf, typeInfo, hi, hs]
section
variable {P : Program} {w : World} {ops : Array Oper} {rest : List Oper} {o : Oper} {a : Act} {Q : Exit → Act → World → Prop} {K : Act → World → Prop}
theorem wp_slice1 (t e : TypeId) (z : Value) (bytes : Nat) (x : Operand) (lo hi : Option Operand) (ho : o.op = .slice t x lo hi none) (ht : P.underlying t = some (.slice e)) (hinfo : (P.info? e).map (fun i => (i.zero, i.size, i.bytes)) = some (some z, 1, bytes))
    {ad : Option Addr} {n cap : Nat} (hx : a.eval x = .slice ad n cap) {cs : List Value} {w0 : World} (hc : Cells w0 (.slice ad n cap) cs) (l m : Nat) (hlm : l ≤ m) (hm : m ≤ n)
    (hlo : (lo.map a.eval = none ∧ l = 0) ∨ lo.map a.eval = some (.int .i64 (l : Int))) (hhi : (hi.map a.eval = none ∧ m = n) ∨ hi.map a.eval = some (.int .i64 (m : Int)))
    (hK : ∀ ad' cap', Cells w0 (.slice ad' (m - l) cap') ((cs.take m).drop l) → K (a.put o.dst (.slice ad' (m - l) cap')) w) : Oper.wp P o a w K Q := by
  have hn : n ≤ cap := by
    obtain ⟨a', cap', e, hl, _, _⟩ := hc
    simp only [Value.slice.injEq] at e
    obtain ⟨_, rfl, rfl⟩ := e
    exact hl
  have hrun := run_slice1 (P := P) (w := w) t e z bytes ht hinfo ad n cap l m hlm hm hn (lo.map a.eval) (hi.map a.eval) hlo hhi
  unfold Oper.wp execOp
  simp only [ho, Sem.run_bind, Sem.run_pure, Result.andThen_ok, hx, hrun, Option.map_none]
  exact hK _ _ ((hc.take m hm).drop l hlm)
end
end Go.Proofs.YthkbbcdnmdjhdaaGreat
/-! XInW: How long what comes in can be: from the statement's own bound on each slice. No statement about the program. -/
namespace Go.Proofs.YthkbbcdnmdjhdaaGreat
open Go.RowKit Go.WideShapes
section
variable {H : Type} {enc : TypeId × Value → H} {P : Program} {w : World} {base : Nat} {spare : Nat → Bool} {held : Bool}
theorem weightsAll_of {e : TypeId} : ∀ {l : List (DataW H)} {d : DataW H}, d ∈ l → ∀ n ∈ d.weights P e, n ∈ DataW.weightsAll P e l
  | x :: l, d, hd, n, hn => by
    show n ∈ x.weights P e ++ DataW.weightsAll P e l
    rcases List.mem_cons.1 hd with rfl | hd
    · exact List.mem_append_left _ hn
    · exact List.mem_append_right _ (weightsAll_of hd n hn)
theorem rows_bound {t b e : TypeId} (ht : P.underlying t = some (.slice b)) (hb : P.underlying b = some (.slice e)) (hcb : P.cellsOf b = 1) (hby : P.bytesOf e = 1) {fuel : Nat} {v : Value} {x : DataW H × List MemPlace}
    (h : DataW.trod enc P w base spare held fuel t [v] = some x) (hw : ∀ n ∈ x.1.weights P t, n ≤ reachBytes) {l : List (List UInt8)} (hV : BRows w v l) : ∀ r ∈ l, r.length ≤ 140737488351232 := by
  intro r hr
  obtain ⟨i, hi⟩ := List.getElem?_of_mem hr
  obtain ⟨vs, ⟨a0, cap0, e0, h1, h2, h3⟩, hvl, hrow⟩ := hV
  have hil := (List.getElem?_eq_some_iff.1 hi).1
  have hiv : i < vs.length := by omega
  obtain ⟨ad, ea, hc⟩ := h3 i vs[i] (List.getElem?_eq_getElem hiv)
  have hB := hrow i vs[i] r (List.getElem?_eq_getElem hiv) hi
  rcases Go.Deep.open_slice ht h with ⟨e1, _⟩ | ⟨a, len, cap, m, n, D, Pl, e1, _, hlc, hcap, hm, hx, hel⟩
  · rw [e0, ea] at e1
    simp at e1
  · simp only [List.cons.injEq, and_true] at e1
    rw [e0, ea] at e1
    simp only [Value.slice.injEq, Option.some.injEq] at e1
    obtain ⟨rfl, e2, e3⟩ := e1
    have hlm : len ≤ m := by rw [hm]; split <;> omega
    obtain ⟨cs', k1, k2⟩ := hel i (by omega)
    rw [hcb, Nat.mul_one] at k1
    obtain ⟨u, rfl, hu⟩ := cells_one k1
    rw [hc] at hu
    obtain rfl := Option.some.inj hu
    obtain ⟨a', c', eu, g1, g2, _⟩ := hB
    rcases Go.Deep.open_slice hb k2 with ⟨f1, _⟩ | ⟨a2, len2, cap2, m2, n2, D2, Pl2, f1, _, _, _, hm2, hx2, _⟩
    · rw [eu] at f1
      simp only [List.cons.injEq, and_true, Value.slice.injEq] at f1
      simp at f1
      have := f1.2.1
      subst this
      simp
    · rw [eu] at f1
      simp only [List.cons.injEq, and_true, Value.slice.injEq] at f1
      have hrl : r.length = len2 := by simpa using f1.2.1
      have hmem : D i ∈ (List.range len).map D := List.mem_map.2 ⟨i, List.mem_range.2 (by omega), rfl⟩
      have hDi : D i = .slice ((List.range len2).map D2) ((List.range (m2 - len2)).map fun j => D2 (len2 + j)) := congrArg Prod.fst hx2
      have hw1 : (len2 + (m2 - len2)) * 1 ∈ (D i).weights P b := by
        rw [hDi]
        unfold DataW.weights
        simp only [hb]
        rw [hby]
        simp
      have hw2 : (len2 + (m2 - len2)) * 1 ∈ x.1.weights P t := by
        rw [hx]
        unfold DataW.weights
        simp only [ht]
        exact List.mem_cons_of_mem _ (List.mem_append_left _ (weightsAll_of hmem _ hw1))
      have := hw _ hw2
      unfold reachBytes at this
      omega
theorem rows_bound_len {t b : TypeId} (ht : P.underlying t = some (.slice b)) (hby : 1 ≤ P.bytesOf b) {fuel : Nat} {v : Value} {x : DataW H × List MemPlace}
    (h : DataW.trod enc P w base spare held fuel t [v] = some x) (hw : ∀ n ∈ x.1.weights P t, n ≤ reachBytes) {l : List (List UInt8)} (hV : BRows w v l) : l.length ≤ 140737488351232 := by
  obtain ⟨vs, ⟨a0, cap0, e0, h1, h2, h3⟩, hvl, -⟩ := hV
  rcases Go.Deep.open_slice ht h with ⟨e1, _⟩ | ⟨a, len, cap, m, n, D, Pl, e1, _, hlc, hcap, hm, hx, hel⟩
  · rw [e0] at e1
    simp only [List.cons.injEq, and_true, Value.slice.injEq] at e1
    omega
  · rw [e0] at e1
    simp only [List.cons.injEq, and_true, Value.slice.injEq] at e1
    have hw2 : (len + (m - len)) * P.bytesOf b ∈ x.1.weights P t := by
      rw [hx]
      unfold DataW.weights
      simp only [ht]
      simp
    have h4 := hw _ hw2
    unfold reachBytes at h4
    have h5 : len ≤ (len + (m - len)) * P.bytesOf b := Nat.le_trans (Nat.le_add_right _ _) (Nat.le_mul_of_pos_right _ hby)
    omega
end

theorem returns_sized {H : Type} {enc : TypeId × Value → H} {a : Assume} {C : Checked} {os : Os} {f : FuncId} {fn : Func} {s : ChangeSpec} {conds : List PathCond} {apart fresh handsOn again : Bool}
    (own : ownKnob C.prog.godebug = none) (started : os.Started) (noInit : C.prog.inits.idxOf? f = none) (hfn : C.prog.funcs[f]? = some fn)
    (witness : ∃ (w : World) (tape : Tape) (i : Input), w.os = os ∧ (w.forCall tape i).Shaped C.prog ∧ i.vars = [] ∧ Input.okWide C.prog (w.forCall tape i) .any w.heap.size f i ∧
      s.pre6 enc C.prog fn conds apart (w.forCall tape i).memory i.args ∧ a.holds C.prog (lone (Frame.enter C.prog f i.args .normal) [] (w.forCall tape i)))
    (contract : ∀ (W : World) (base : Nat) (args : Array Value) (ds gs : List (DataW H)) (before : List MemPlace),
      (∀ (j : Nat) t v, fn.params[j]? = some t → args[j]? = some v → Value.okWide C.prog W .any base t v) →
      DataW.Whole enc C.prog fn.params.toList s.vars apart W args.toList ds gs before →
      conds.all (PathCond.test C.prog ⟨fn.params.toList, ds, s.plain.varTypes C.prog, gs⟩) = true →
      (DataW.weightsEach C.prog (fn.params.toList ++ s.plain.varTypes C.prog) (ds ++ gs)).all (· ≤ reachBytes) = true →
      a.holds C.prog (lone (Frame.enter C.prog f args .normal) [] W) →
      Calls C.prog f args W fun e W' => ∃ v, e = .returned v ∧ s.post enc C.prog fn apart fresh handsOn again W args v W') :
    ReturnsInHanded a C os f .any (s.pre6 enc C.prog fn conds apart) (s.post enc C.prog fn apart fresh handsOn again) := by
  obtain ⟨w, tape, i, a1, a2, a3, a4, a5, a6⟩ := witness
  have h := returnsInHanded_of_change_and (enc := enc) (s := s) (conds := conds) (apart := apart) (fresh := fresh) (handsOn := handsOn) (again := again) (a := a) (X := fun _ _ => True) (fun _ _ _ _ h => h) own started noInit hfn ⟨w, tape, i, a1, a2, a3, a4, ⟨⟨a5.1, trivial⟩, a5.2⟩, a6⟩
    (fun W base args ds gs before hval hW hc hw _ hh => contract W base args ds gs before hval hW hc hw hh)
  have e : (fun w args => (s.pre enc C.prog fn conds apart w args ∧ True) ∧ sizedMet enc C.prog fn (OpenSpec.ofChange s) apart w args) = s.pre6 enc C.prog fn conds apart := by
    funext w args
    unfold ChangeSpec.pre6
    rw [and_true]
  rw [e] at h
  exact h
end Go.Proofs.YthkbbcdnmdjhdaaGreat
