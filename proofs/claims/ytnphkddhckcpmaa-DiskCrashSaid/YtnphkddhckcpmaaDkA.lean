/-
  A disk in memory: its block, its map, its files. No walk.
-/
import Derived.Test.YtnphkddhckcpmaaChg
import Derived.Test.YtnphkddhckcpmaaStr
import Derived.Test.YtnphkddhckcpmaaDkP
import Derived.Maps.OwnSet
import Derived.Maps.Range
import Derived.StringKeys
namespace Go.Proofs.Ytnphkddhckcpmaa
open Go.RowKit Dk Go.WideShapes Go.ChangeMaps Go.MapKept
set_option maxRecDepth 100000
set_option maxHeartbeats 1000000

/-- How a pointer to a file reads as a map's element: by its block. -/
def Rq (v : Value) : Option (DataW Unit × List MemPlace) :=
  match v with
  | .pointer (some a) => if a = ⟨a.block, 0, none⟩ then some (.lit (.int .i64 a.block), []) else none
  | .pointer none => some (.lit (.bool false), [])
  | _ => none
theorem Rq_mk (q : Nat) : Rq (.pointer (some ⟨q, 0, none⟩)) = some (.lit (.int .i64 q), []) := by unfold Rq; simp
theorem Rq_inv {v : Value} {q : Nat} {ps : List MemPlace} (h : Rq v = some (.lit (.int .i64 q), ps)) : v = .pointer (some ⟨q, 0, none⟩) := by
  unfold Rq at h
  split at h
  · split at h
    · rename_i a he
      simp only [Option.some.injEq, Prod.mk.injEq, DataW.lit.injEq, Lit.int.injEq, true_and] at h
      have hb : a.block = q := by omega
      rw [he, hb]
    · cases h
  · simp at h
  · cases h
theorem Rq_nil {v : Value} {ps : List MemPlace} (h : Rq v = some (.lit (.bool false), ps)) : v = .pointer none := by
  unfold Rq at h
  split at h
  · split at h
    · simp at h
    · cases h
  · rfl
  · cases h
theorem Rq_form {v : Value} {y : DataW Unit × List MemPlace} (h : Rq v = some y) : (∃ q : Nat, v = .pointer (some ⟨q, 0, none⟩)) ∨ v = .pointer none := by
  unfold Rq at h
  split at h
  · split at h
    · rename_i a he
      exact .inl ⟨a.block, by rw [← he]⟩
    · cases h
  · exact .inr rfl
  · cases h
theorem kstr : Go.Maps.Keyed Try.prog 9 := Go.Maps.string_keyed Try.underlying9
theorem keystr (p : Path) (h : p.length ≤ maxLen) : keyOf Try.prog 9 (.string (bstr p)) = some (.string p) := WideMaps.keyOf_string_mk Try.underlying9 (s := bstr p) h
theorem zfile (w : World) : (zeroValue 79).run Try.prog w = .ok (.pointer none) w := by kernel_rfl

/-- Block m is a map from these paths to these files' blocks. -/
def FMap (w : World) (m : Nat) (l : L Nat) : Prop := w.ownsMap Try.prog 9 Rq m l.length (Dm l)
theorem ownsMap.tight {w : World} {m n : Nat} {l : L Nat} (h : w.ownsMap Try.prog 9 Rq m n (Dm l)) : FMap w m l := by
  obtain ⟨es, clock, hb, F, hs, hD⟩ := h
  refine ⟨es, clock, hb, F, ?_, hD⟩
  have h1 : Maps.size (Dm l) = Maps.size (DataW.map ((es.toList.map (Go.WideElems.rg Try.prog 9 Rq)).foldr DataW.insert [])) := by rw [← hD]
  rw [Dm_size] at h1
  have h2 : (DataW.map ((es.toList.map (Go.WideElems.rg Try.prog 9 Rq)).foldr DataW.insert [])) = .map ((es.toList.map (Go.WideElems.rg Try.prog 9 Rq)).foldr DataW.insert []) := rfl
  rw [Maps.size_eq, length_sorted] at h1
  simp at h1
  omega
theorem FMap.made (w : World) : FMap (w.alloc (.map #[] 0)) w.heap.size [] := World.ownsMap_made w Try.prog 9 Rq
theorem FMap.lt {w : World} {m : Nat} {l : L Nat} (h : FMap w m l) : m < w.heap.size := World.ownsMap.lt h
theorem FMap.blk {w : World} {m : Nat} {l : L Nat} (h : FMap w m l) : ∃ es clock, w.heap[m]? = some (.map es clock) := by obtain ⟨es, clock, hb, _⟩ := h; exact ⟨es, clock, hb⟩
theorem FMap.ne {w : World} {m b : Nat} {l : L Nat} {e : TypeId} {cs : Array Value} (h : FMap w m l) (k : Row w b e cs) : b ≠ m := fun x => by
  subst x
  obtain ⟨es, clock, hb⟩ := h.blk
  unfold Row at k
  rw [hb] at k; cases k
theorem FMap.chg {S : Nat → Prop} {w w' : World} {m : Nat} {l : L Nat} (h : FMap w m l) (k : Chg S w w') (hn : ¬ S m) : FMap w' m l := by
  have hlt := h.lt
  obtain ⟨es, clock, hb, F, hs, hD⟩ := h
  exact ⟨es, clock, (k.block m hlt hn).trans hb, F, hs, hD⟩
theorem FMap.look {w : World} {m : Nat} {l : L Nat} (h : FMap w m l) (p : Path) (hp : p.length ≤ maxLen) :
    (Instr.lookup 75 (.map (some m)) (.string (bstr p)) true).run Try.prog w = .ok (.tuple #[match get p l with | some q => .pointer (some ⟨q, 0, none⟩) | none => .pointer none, .bool (get p l).isSome]) w := by
  obtain ⟨v, ps, h1, h2⟩ := World.ownsMap.look_ok h kstr Try.underlying75 (zfile w) (zd := .lit (.bool false)) (zp := []) rfl (keystr p hp)
  rw [Dm_has] at h1
  rw [Dm_at] at h2
  rw [h1]
  cases hg : get p l with
  | some q =>
    rw [hg] at h2
    rw [Rq_inv h2]
  | none =>
    rw [hg] at h2
    rw [Rq_nil h2]
theorem FMap.put {w : World} {m : Nat} {l : L Nat} (h : FMap w m l) (p : Path) (hp : p.length ≤ maxLen) (q : Nat) (hl : l.length < 100000) :
    ∃ w', (Instr.mapUpdate 75 (.map (some m)) (.string (bstr p)) (.pointer (some ⟨q, 0, none⟩))).run Try.prog w = .ok () w' ∧ FMap w' m (Dk.put p q l) ∧ w.grownBy w' (some m) ∧ w'.heap.size = w.heap.size := by
  obtain ⟨es, clock, hb, F, hs, hD⟩ := id h
  obtain ⟨w', h1, h2, h3⟩ := World.ownsMap.update h kstr Try.underlying75 (by unfold maxLen; omega) (keystr p hp) (Rq_mk q)
  rw [Dm_put] at h2
  refine ⟨w', h1, ownsMap.tight h2, h3, ?_⟩
  obtain ⟨es', clock', hrun, -⟩ := Maps.fit_store (R' := Rq) kstr Try.underlying75 hb F (by unfold maxLen; omega) (fun _ _ _ _ hz => hz) (keystr p hp) (Rq_mk q)
  rw [hrun] at h1
  injection h1 with _ h1
  rw [← h1]
  simp [setBlock]
theorem FMap.del {w : World} {m : Nat} {l : L Nat} (h : FMap w m l) (p : Path) (hp : p.length ≤ maxLen) (ty : TypeId) :
    ∃ w', (Builtin.delete_ #[75, 9] ty #[.map (some m), .string (bstr p)]).run Try.prog w = .ok (.tuple #[]) w' ∧ FMap w' m (Dk.del p l) ∧ w.grownBy w' (some m) ∧ w'.heap.size = w.heap.size := by
  obtain ⟨w', h1, h2, h3⟩ := World.ownsMap.drop h kstr Try.underlying75 (keystr p hp) ty
  rw [Dm_del] at h2
  refine ⟨w', h1, ownsMap.tight h2, h3.grown, ?_⟩
  obtain ⟨es, clock, es', clock', -, rfl⟩ := h3
  simp [setBlock]

/-- A file in memory: its block, its slice; what it is. -/
structure Ent where
  q : Nat
  v : Value
  f : Fil
def FileAt (w : World) (e : Ent) : Prop := Row w e.q 82 #[e.v, .bool e.f.sure] ∧ Own w 0 5 e.v (bvs e.f.b)
theorem FileAt.chg {S : Nat → Prop} {w w' : World} {e : Ent} (h : FileAt w e) (k : Chg S w w') (hq : ¬ S e.q) (hv : ∀ b, e.v.ownBlock = some b → ¬ S b) : FileAt w' e := ⟨h.1.chg k hq, h.2.chg k hv⟩
def EApart (e e' : Ent) : Prop := e.q ≠ e'.q ∧ (e.v.ownBlock = none ∨ e.v.ownBlock ≠ e'.v.ownBlock)
def qs (l : L Ent) : L Nat := mapv (·.q) l
def fils (l : L Ent) : L Fil := mapv (·.f) l
def fptr (fp : Option Nat) : Value := .pointer (fp.map fun b => ⟨b, 0, none⟩)
/-- The blocks of a disk. -/
def Foot (s m : Nat) (es : L Ent) (b : Nat) : Prop := b = s ∨ b = m ∨ ∃ e ∈ es, b = e.2.q ∨ e.2.v.ownBlock = some b
/-- A disk in memory. -/
structure Raw (w : World) (s : Nat) (fp : Option Nat) (m : Nat) (es : L Ent) (d : DS) : Prop where
  row : Row w s 77 #[.int .i64 d.most, fptr fp, .map (some m), .bool d.off, .int .i64 d.bad]
  map : FMap w m (qs es)
  up : Up es
  file : ∀ e ∈ es, FileAt w e.2
  apart : ∀ e ∈ es, ∀ e' ∈ es, e.1 ≠ e'.1 → EApart e.2 e'.2
  fs : d.fs = fils es
  nb : d.bad ≤ 9223372036854775807
  nm : d.most ≤ 4194304
/-- A disk all of whose blocks are in S; the fuse is not. -/
def SimAt (w : World) (s : Nat) (fp : Option Nat) (d : DS) (S : Nat → Prop) : Prop := ∃ m es, Raw w s fp m es d ∧ (∀ b, Foot s m es b → S b) ∧ (∀ b, S b → b < w.heap.size) ∧ (∀ b, fp = some b → ¬ S b)
/-- The fuse in memory. -/
def FzAt (w : World) : Option Nat → Option FS → Prop
  | none, none => True
  | some b, some z => Row w b 74 #[.int .i64 z.n, .int .i64 z.ops, .bool z.blown] ∧ -9223372036854775808 ≤ z.n ∧ z.n ≤ 9223372036854775807
  | _, _ => False
theorem FzAt.chg {S : Nat → Prop} {w w' : World} {fp : Option Nat} {z : Option FS} (h : FzAt w fp z) (k : Chg S w w') (hn : ∀ b, fp = some b → ¬ S b) : FzAt w' fp z := by
  cases fp with
  | none => cases z with
    | none => trivial
    | some z => exact h
  | some b => cases z with
    | none => exact h
    | some z => exact ⟨h.1.chg k (hn b rfl), h.2⟩
theorem qs_get (es : L Ent) (p : Path) : get p (qs es) = (get p es).map (·.q) := get_mapv _ _ _
theorem fils_get (es : L Ent) (p : Path) : get p (fils es) = (get p es).map (·.f) := get_mapv _ _ _
theorem Raw.chg {S : Nat → Prop} {w w' : World} {s m : Nat} {fp : Option Nat} {es : L Ent} {d : DS} (h : Raw w s fp m es d) (k : Chg S w w') (hn : ∀ b, Foot s m es b → ¬ S b) : Raw w' s fp m es d :=
  ⟨h.row.chg k (hn s (.inl rfl)), h.map.chg k (hn m (.inr (.inl rfl))), h.up,
   fun e he => (h.file e he).chg k (hn _ (.inr (.inr ⟨e, he, .inl rfl⟩))) (fun b hb => hn b (.inr (.inr ⟨e, he, .inr hb⟩))), h.apart, h.fs, h.nb, h.nm⟩
theorem SimAt.chg {S T : Nat → Prop} {w w' : World} {s : Nat} {fp : Option Nat} {d : DS} (h : SimAt w s fp d S) (k : Chg T w w') (hn : ∀ b, S b → ¬ T b) : SimAt w' s fp d S := by
  obtain ⟨m, es, h1, h2, h3, h4⟩ := h
  exact ⟨m, es, h1.chg k fun b hb => hn b (h2 b hb), h2, fun b hb => Nat.lt_of_lt_of_le (h3 b hb) k.size, h4⟩
theorem SimAt.ext {S : Nat → Prop} {w w' : World} {s : Nat} {fp : Option Nat} {d : DS} (h : SimAt w s fp d S) (k : Ext w w') : SimAt w' s fp d S := h.chg (Chg.of_ext k fun _ => False) fun _ _ h => h
theorem SimAt.mono {S T : Nat → Prop} {w : World} {s : Nat} {fp : Option Nat} {d : DS} (h : SimAt w s fp d S) (hS : ∀ b, S b → T b) (hT : ∀ b, T b → b < w.heap.size) (hf : ∀ b, fp = some b → ¬ T b) : SimAt w s fp d T := by
  obtain ⟨m, es, h1, h2, h3, h4⟩ := h
  exact ⟨m, es, h1, fun b hb => hS b (h2 b hb), hT, hf⟩
/-- What is written outside the disk. -/
theorem Raw.foot_lt {w : World} {s m : Nat} {fp : Option Nat} {es : L Ent} {d : DS} (h : Raw w s fp m es d) {b : Nat} (hb : Foot s m es b) : b < w.heap.size := by
  rcases hb with rfl | rfl | ⟨e, he, rfl | hv⟩
  · exact h.row.lt
  · exact h.map.lt
  · exact (h.file e he).1.lt
  · exact (h.file e he).2.lt hv
theorem ty_sim_fuse : 77 ≠ 74 := by decide
theorem ty_file_fuse : 82 ≠ 74 := by decide
theorem ty_byte_fuse : 5 ≠ 74 := by decide
theorem ty_sim_file : 77 ≠ 82 := by decide
theorem ty_sim_byte : 77 ≠ 5 := by decide
theorem ty_file_byte : 82 ≠ 5 := by decide
theorem Own.ne {w : World} {B c : Nat} {e f : TypeId} {v : Value} {cs : List Value} {ds : Array Value} (h : Own w B e v cs) (k : Row w c f ds) (hef : e ≠ f) : v.ownBlock ≠ some c := fun x => by
  obtain ⟨cur, hr⟩ := h.row x
  exact hr.ne k hef rfl
theorem FMap.own {w : World} {B m : Nat} {e : TypeId} {v : Value} {cs : List Value} {l : L Nat} (h : FMap w m l) (k : Own w B e v cs) : v.ownBlock ≠ some m := fun x => by
  obtain ⟨cur, hr⟩ := k.row x
  exact h.ne hr rfl
/-- A row of another kind is none of a disk's blocks. -/
theorem Raw.other {w : World} {s m b : Nat} {fp : Option Nat} {es : L Ent} {d : DS} {f : TypeId} {ds : Array Value} (h : Raw w s fp m es d) (k : Row w b f ds) (h1 : 77 ≠ f) (h2 : 82 ≠ f) (h3 : 5 ≠ f) : ¬ Foot s m es b := by
  rintro (rfl | rfl | ⟨e, he, rfl | hv⟩)
  · exact h.row.ne k h1 rfl
  · exact h.map.ne k rfl
  · exact (h.file e he).1.ne k h2 rfl
  · exact (h.file e he).2.ne k h3 hv
theorem Raw.fuse {w : World} {s m : Nat} {fp : Option Nat} {es : L Ent} {d : DS} {z : Option FS} (h : Raw w s fp m es d) (hz : FzAt w fp z) (b : Nat) (hb : Foot s m es b) : fp ≠ some b := fun e => by
  subst e
  cases z with
  | none => exact hz
  | some z => exact h.other hz.1 ty_sim_fuse ty_file_fuse ty_byte_fuse hb
/-- The disk's own block is none of its files'. -/
theorem Raw.sim {w : World} {s m : Nat} {fp : Option Nat} {es : L Ent} {d : DS} (h : Raw w s fp m es d) : s ≠ m ∧ ∀ e ∈ es, e.2.q ≠ s ∧ e.2.v.ownBlock ≠ some s :=
  ⟨h.map.ne h.row, fun e he => ⟨fun x => h.row.ne (h.file e he).1 ty_sim_file x.symm, (h.file e he).2.ne h.row (fun x => ty_sim_byte x.symm)⟩⟩
/-- One of the disk's own numbers, written. -/
theorem Raw.own {w : World} {s m : Nat} {fp : Option Nat} {es : L Ent} {d d' : DS} (h : Raw w s fp m es d) (i : Nat) (u : Value)
    (hr : Row (w.setCell ⟨s, i, none⟩ u) s 77 #[.int .i64 d'.most, fptr fp, .map (some m), .bool d'.off, .int .i64 d'.bad]) (hf : d'.fs = d.fs) (h1 : d'.bad ≤ 9223372036854775807) (h2 : d'.most ≤ 4194304) : Raw (w.setCell ⟨s, i, none⟩ u) s fp m es d' := by
  have hc : Chg (fun b => b = s) w (w.setCell ⟨s, i, none⟩ u) := (Chg.refl (fun b => b = s) w).at s i (.inl rfl) u
  have hs := h.sim
  exact ⟨hr, h.map.chg hc (fun e => hs.1 e.symm), h.up, fun e he => (h.file e he).chg hc (hs.2 e he).1 (fun b hb e2 => (hs.2 e he).2 (by rw [hb, e2])), h.apart, by rw [hf, h.fs], h1, h2⟩
end Go.Proofs.Ytnphkddhckcpmaa
