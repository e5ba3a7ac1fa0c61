/-
  DiskFails.
-/
import Derived.Test.YtnphkddhckcpmaaDkO
import Derived.Test.YtnphkddhckcpmaaDkM
namespace Go.Proofs.Ytnphkddhckcpmaa
open Go.RowKit Dk
set_option maxRecDepth 100000
set_option maxHeartbeats 4000000
attribute [local go_sem] min_int2 max_int2 bstr_toList

def was : List UInt8 := [119, 97, 115]
/-- The disk behind i writes of y, where k were to fail. -/
def FState (k i : Nat) (d : DS) : Prop := d.most = 1000000 ∧ d.off = false ∧ d.bad = k - i ∧ (d.fs = [([120], ⟨was, false⟩)] ∨ (k < i ∧ ∃ f, d.fs = [([120], ⟨was, false⟩), ([121], f)] ∧ f.b.length ≤ 5000))
theorem fstate_io {k i : Nat} {d : DS} (h : FState k i d) (hi : i < k) (b : List UInt8) : ∃ d', writes none d [121] b = (9, none, d') ∧ FState k (i + 1) d' ∧ get [121] d'.fs = none := by
  obtain ⟨mo, of, ba, fs⟩ := d
  obtain ⟨rfl, rfl, hb, hf⟩ := h
  have hb : ba = k - i := hb
  obtain ⟨c, rfl⟩ : ∃ c, ba = c + 1 := ⟨k - i - 1, by omega⟩
  rcases hf with hf | ⟨hk, -⟩
  · have hf : fs = _ := hf
    subst hf
    exact ⟨⟨1000000, false, c, [([120], ⟨was, false⟩)]⟩, rfl, ⟨rfl, rfl, (by show c = k - (i + 1); omega), .inl rfl⟩, rfl⟩
  · omega
theorem fstate_ok {k i : Nat} {d : DS} (h : FState k i d) (hi : k ≤ i) {b : List UInt8} (hl : b.length ≤ 5000) : ∃ d', writes none d [121] b = (0, none, d') ∧ FState k (i + 1) d' ∧ get [121] d'.fs = some ⟨b, false⟩ := by
  obtain ⟨mo, of, ba, fs⟩ := d
  obtain ⟨rfl, rfl, hb, hf⟩ := h
  have hb : ba = k - i := hb
  obtain rfl : ba = 0 := by omega
  refine ⟨⟨1000000, false, 0, [([120], ⟨was, false⟩), ([121], ⟨b, false⟩)]⟩, ?_, ⟨rfl, rfl, (by show 0 = k - (i + 1); omega), .inr ⟨by omega, _, rfl, hl⟩⟩, rfl⟩
  have hbg : ∀ fs, begins none ⟨1000000, false, 0, fs⟩ [[121]] = (0, none, ⟨1000000, false, 0, fs⟩) := fun fs => rfl
  unfold writes
  rw [hbg, if_neg (by simp), if_neg (by omega)]
  rcases hf with hf | ⟨hk, f, hf, hfl⟩
  · have hf : fs = _ := hf
    subst hf
    rw [if_neg]
    · rfl
    · show ¬ (1000000 + 0 < 3 + 0 + b.length ∨ 4096 < 2); omega
  · have hf : fs = _ := hf
    subst hf
    rw [if_neg]
    · rfl
    · show ¬ (1000000 + f.b.length < 3 + (f.b.length + 0) + b.length ∨ 4096 < 2); omega
theorem fstate_tot {k i : Nat} {d : DS} (h : FState k i d) : tot d.fs ≤ 5003 ∧ d.fs.length ≤ 2 ∧ get [120] d.fs = some ⟨was, false⟩ := by
  rcases h.2.2.2 with h | ⟨-, f, h, hf⟩
  · rw [h]; exact ⟨by show 3 + 0 ≤ 5003; omega, by simp, rfl⟩
  · rw [h]; exact ⟨by show 3 + (f.b.length + 0) ≤ 5003; omega, by simp, rfl⟩
theorem off_begins {d : DS} (h : d.off = true) (ps : List Path) : begins none d ps = (10, none, d) := by unfold begins; rw [h]; rfl
theorem off_opens {d : DS} (h : d.off = true) (p : Path) (more : List Path) : opens none d p more = 10 := by unfold opens; rw [off_begins h]; rfl
theorem off_writes {d : DS} (h : d.off = true) (p : Path) (b : List UInt8) : writes none d p b = (10, none, d) := by unfold writes; rw [off_begins h]; rfl
theorem off_syncs {d : DS} (h : d.off = true) (p : Path) : syncs none d p = (10, none, d) := by unfold syncs; rw [off_opens h, off_begins h]; rfl
theorem off_renames {d : DS} (h : d.off = true) (p q : Path) : renames none d p q = (10, none, d) := by unfold renames; rw [off_opens h, off_begins h]; rfl
theorem off_deletes {d : DS} (h : d.off = true) (p : Path) : deletes none d p = (10, none, d) := by unfold deletes; rw [off_opens h, off_begins h]; rfl
theorem off_readb {d : DS} (h : d.off = true) (p : Path) : readb none d p = [] := by unfold readb; rw [off_opens h]; rfl
theorem on_read {d : DS} (h : d.off = false) (hb : d.bad = 0) (hx : get [120] d.fs = some ⟨was, false⟩) : opens none d [120] [] = 0 ∧ readb none d [120] = was ∧ begins none d [[120]] = (0, none, d) := by
  obtain ⟨mo, of, ba, fs⟩ := d
  obtain rfl : of = false := h
  obtain rfl : ba = 0 := hb
  have hbg : begins none ⟨mo, false, 0, fs⟩ [[120]] = (0, none, ⟨mo, false, 0, fs⟩) := rfl
  have hx : get [120] fs = _ := hx
  have ho : opens none ⟨mo, false, 0, fs⟩ [120] [] = 0 := by
    unfold opens
    rw [hbg]
    show (if 0 = 0 then (if (get [120] fs).isSome then 0 else 6) else 0) = 0
    rw [hx]; rfl
  refine ⟨ho, ?_, hbg⟩
  unfold readb
  rw [ho]
  show (match get [120] fs with | some f => f.b | none => []) = was
  rw [hx]
/-- The disk in a world behind w. -/
structure FL (w wr : World) (s : Nat) (d : DS) (S : Nat → Prop) : Prop where
  hs : SimAt wr s none d S
  hb : ∀ b, S b → w.heap.size ≤ b
  ex : Ext w wr
theorem FL.grow {w wr w' : World} {s : Nat} {d d' : DS} {S : Nat → Prop} (h : FL w wr s d S) (ha : SimAt w' s none d' (Grow S wr w')) (hc : Chg (fun b => S b ∨ none = some b) wr w') : FL w w' s d' (Grow S wr w') :=
  ⟨ha, fun b hx => hx.elim (h.hb b) fun hx => Nat.le_trans h.ex.size hx.1, Chg.after2 h.ex hc (fun b hx => by
    rcases hx with hx | hx
    · exact h.hb b hx
    · cases hx)⟩
theorem FL.same {w wr w' : World} {s : Nat} {d d' : DS} {S : Nat → Prop} (h : FL w wr s d S) (ha : SimAt w' s none d' S) (hc : Chg S wr w') : FL w w' s d' S := ⟨ha, h.hb, Chg.after2 h.ex hc h.hb⟩
theorem FL.ext {w wr w' : World} {s : Nat} {d : DS} {S : Nat → Prop} (h : FL w wr s d S) (x : Ext wr w') : FL w w' s d S := ⟨h.hs.ext x, h.hb, Ext.trans h.ex x⟩
theorem Chg.nof {S : Nat → Prop} {w w' : World} (h : Chg (fun b => S b ∨ (none : Option Nat) = some b) w w') : Chg S w w' := h.mono fun b _ hb => hb.elim id fun h => by cases h
theorem put_list {L : List Value} {d : List Deferred} {x : Option Nat} {j : Nat} (h : x = some j) (v : Value) : (⟨L.toArray, d⟩ : Act).put x v = ⟨(L.set j v).toArray, d⟩ := by subst h; simp [Act.put]
/-- Take a silent operation first; what it writes is told by its slot. -/
theorem wpU_pureL {P : Program} {md : Region.Mode} {ops : Array Oper} {Q : Exit → Act → World → Prop} {S : World → Prop} {k i j : Nat} {oi : Oper} {v : Value} {fuel : Nat} {listed : Array Bool} {L : List Value} {d : List Deferred} {w : World} (hi : ops[i]? = some oi) (hd : oi.dst = some j)
    (hs : Region.noSelect ops = true) (hf : Region.free md ops listed i = true) (hr : (Region.ready md ops listed).contains i = true) (hki : k ≠ i)
    (hQ : ∀ c a w, Q (.panic c) (a.put oi.dst v) w → Q (.panic c) a w) (hS : listed.getD k true = false → S w) (hy : YieldsIf P ops (fun _ => True) oi v ⟨L.toArray, d⟩)
    (h : wpU P md ops Q S k fuel (listed.setIfInBounds i true) ⟨(L.set j v).toArray, d⟩ w) : wpU P md ops Q S k (fuel + 1) listed ⟨L.toArray, d⟩ w :=
  wpU_pure hi hs hf hr hki hQ hS hy (by rw [put_list hd]; exact h)
end Go.Proofs.Ytnphkddhckcpmaa
