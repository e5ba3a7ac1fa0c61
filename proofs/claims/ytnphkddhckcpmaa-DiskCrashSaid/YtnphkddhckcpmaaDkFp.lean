/-
  DiskFull: a map from paths to numbers; the plain law.
-/
import Derived.Test.YtnphkddhckcpmaaDkLp
namespace Go.Proofs.Ytnphkddhckcpmaa
open Go.RowKit Dk Go.WideShapes Go.ChangeMaps Go.MapKept
set_option maxRecDepth 100000
set_option maxHeartbeats 4000000

/-- How a number reads as a map's element. -/
def Ri (v : Value) : Option (DataW Unit × List MemPlace) :=
  match v with
  | .int .i64 z => some (.lit (.int .i64 z), [])
  | _ => none
theorem Ri_mk (q : Nat) : Ri (.int .i64 (q : Int)) = some (.lit (.int .i64 q), []) := rfl
theorem Ri_inv {v : Value} {q : Int} {ps : List MemPlace} (h : Ri v = some (.lit (.int .i64 q), ps)) : v = .int .i64 q := by
  unfold Ri at h
  split at h
  · simp only [Option.some.injEq, Prod.mk.injEq, DataW.lit.injEq, Lit.int.injEq, true_and] at h
    rw [h.1]
  · cases h
/-- Block m is a map from these paths to these numbers. -/
def SMap (w : World) (m : Nat) (l : L Nat) : Prop := w.ownsMap Try.prog 9 Ri m l.length (Dm l)
theorem SMap.tighten {w : World} {m n : Nat} {l : L Nat} (h : w.ownsMap Try.prog 9 Ri m n (Dm l)) : SMap w m l := by
  obtain ⟨es, clock, hb, F, hs, hD⟩ := h
  refine ⟨es, clock, hb, F, ?_, hD⟩
  have h1 : Maps.size (Dm l) = Maps.size (DataW.map ((es.toList.map (Go.WideElems.rg Try.prog 9 Ri)).foldr DataW.insert [])) := by rw [← hD]
  rw [Dm_size] at h1
  have h2 : (DataW.map ((es.toList.map (Go.WideElems.rg Try.prog 9 Ri)).foldr DataW.insert [])) = .map ((es.toList.map (Go.WideElems.rg Try.prog 9 Ri)).foldr DataW.insert []) := rfl
  rw [Maps.size_eq, length_sorted] at h1
  simp at h1
  omega
theorem SMap.lt {w : World} {m : Nat} {l : L Nat} (h : SMap w m l) : m < w.heap.size := World.ownsMap.lt h
theorem SMap.chg {S : Nat → Prop} {w w' : World} {m : Nat} {l : L Nat} (h : SMap w m l) (k : Chg S w w') (hn : ¬ S m) : SMap w' m l := by
  have hlt := h.lt
  obtain ⟨es, clock, hb, F, hs, hD⟩ := h
  exact ⟨es, clock, (k.block m hlt hn).trans hb, F, hs, hD⟩
def smapT (m : Nat) (l : L Nat) : Thing := ⟨fun w T => SMap w m l ∧ ∀ b, T b ↔ m = b, fun h b hb => by rw [← (h.2 b).1 hb]; exact h.1.lt, fun h hc hn => ⟨h.1.chg hc (hn m ((h.2 m).2 rfl)), h.2⟩⟩
theorem zint (w : World) : (zeroValue 3).run Try.prog w = .ok (.int .i64 0) w := by kernel_rfl
section
variable {w0 w : World} {Y : Thing} {m : Nat} {l : L Nat}
theorem Lab.smap (h : Lab w0 w (smapT m l)) : SMap w m l := by obtain ⟨T, h⟩ := h.get; exact h.1
theorem Lab.mmade (h : Lab w0 w Y) : Lab w0 (w.alloc (.map #[] 0)) ((smapT w.heap.size []).star Y) :=
  h.new ((Ext.refl w).alloc (Nat.le_refl _) _) (X := smapT w.heap.size []) (T := fun b => w.heap.size = b) ⟨World.ownsMap_made w Try.prog 9 Ri, fun _ => Iff.rfl⟩ fun _ hb => Nat.le_of_eq hb
theorem SMap.look (h : SMap w m l) (p : Path) (hp : p.length ≤ maxLen) :
    (Instr.lookup 43 (.map (some m)) (.string (bstr p)) false).run Try.prog w = .ok (.int .i64 ((get p l).getD 0 : Nat)) w := by
  obtain ⟨v, ps, h1, h2⟩ := World.ownsMap.lookup h kstr Try.underlying43 (zint w) (zd := .lit (.int .i64 0)) (zp := []) rfl (keystr p hp)
  rw [Dm_at] at h2
  rw [h1]
  cases hg : get p l with
  | some q =>
    rw [hg] at h2
    rw [Ri_inv h2]; rfl
  | none =>
    rw [hg] at h2
    rw [Ri_inv h2]; rfl
theorem SMap.lookok (h : SMap w m l) (p : Path) (hp : p.length ≤ maxLen) :
    (Instr.lookup 43 (.map (some m)) (.string (bstr p)) true).run Try.prog w = .ok (.tuple #[.int .i64 ((get p l).getD 0 : Nat), .bool (get p l).isSome]) w := by
  obtain ⟨v, ps, h1, h2⟩ := World.ownsMap.look_ok h kstr Try.underlying43 (zint w) (zd := .lit (.int .i64 0)) (zp := []) rfl (keystr p hp)
  rw [Dm_has] at h1
  rw [Dm_at] at h2
  rw [h1]
  cases hg : get p l with
  | some q =>
    rw [hg] at h2
    rw [Ri_inv h2]; rfl
  | none =>
    rw [hg] at h2
    rw [Ri_inv h2]; rfl
theorem SMap.len (h : SMap w m l) (ty : TypeId) : (Builtin.len_ #[43] ty #[.map (some m)]).run Try.prog w = .ok (.int .i64 (l.length : Nat)) w := by
  have := World.ownsMap.len h Try.underlying43 ty
  rw [Dm_size] at this
  exact this
theorem Lab.mput (h : Lab w0 w ((smapT m l).star Y)) (p : Path) (hp : p.length ≤ maxLen) (q : Nat) (hl : l.length < 100000) :
    ∃ w', (Instr.mapUpdate 43 (.map (some m)) (.string (bstr p)) (.int .i64 (q : Int))).run Try.prog w = .ok () w' ∧ Lab w0 w' ((smapT m (Dk.put p q l)).star Y) := by
  obtain ⟨w', h1, h2, h3⟩ := World.ownsMap.update h.left.smap kstr Try.underlying43 (by unfold maxLen; omega) (keystr p hp) (Ri_mk q)
  rw [Dm_put] at h2
  exact ⟨w', h1, h.made fun T hT => ⟨(Chg.refl T w).grown h3 fun k hk => .inl ((hT.2 k).2 (Option.some.inj hk)), fun b => m = b, fun b hb => .inl ((hT.2 b).2 hb), SMap.tighten h2, fun _ => Iff.rfl⟩⟩
theorem Lab.mdel (h : Lab w0 w ((smapT m l).star Y)) (p : Path) (hp : p.length ≤ maxLen) (ty : TypeId) :
    ∃ w', (Builtin.delete_ #[43, 9] ty #[.map (some m), .string (bstr p)]).run Try.prog w = .ok (.tuple #[]) w' ∧ Lab w0 w' ((smapT m (Dk.del p l)).star Y) := by
  obtain ⟨w', h1, h2, h3⟩ := World.ownsMap.drop h.left.smap kstr Try.underlying43 (keystr p hp) ty
  rw [Dm_del] at h2
  exact ⟨w', h1, h.made fun T hT => ⟨(Chg.refl T w).grown h3.grown fun k hk => .inl ((hT.2 k).2 (Option.some.inj hk)), fun b => m = b, fun b hb => .inl ((hT.2 b).2 hb), SMap.tighten h2, fun _ => Iff.rfl⟩⟩
end
/-- How long each is. -/
def lens (l : L Fil) : L Nat := mapv (fun f => f.b.length) l
theorem lens_get (l : L Fil) (p : Path) : (get p (lens l)).getD 0 = olen p l ∧ (get p (lens l)).isSome = (get p l).isSome := by
  unfold lens olen
  rw [get_mapv]
  cases get p l <;> exact ⟨rfl, rfl⟩
theorem full_write {d : DS} {n i : Nat} (h : DS.calm d n) (hf : Few d i) (p : Path) (hp : okP p = true) (b : List UInt8) (hb : b.length ≤ 5000) (hi : i < 4096) :
    writes none d p b = if tot d.fs + b.length ≤ n + olen p d.fs then (0, none, { d with fs := put p ⟨b, false⟩ d.fs }) else (8, none, d) := by
  have hl := hf.len
  unfold writes
  rw [calm_begins h [p] (by simp [hp])]
  obtain ⟨mn, hmn⟩ : ∃ mn, (if (get p d.fs).isSome then d.fs.length else d.fs.length + 1) = mn := ⟨_, rfl⟩
  have hmn2 : mn ≤ 4096 := by rw [← hmn]; split <;> omega
  have hm := h.1
  simp only [hmn]
  rw [if_neg (by simp), if_neg (by omega)]
  by_cases hft : tot d.fs + b.length ≤ n + olen p d.fs
  · rw [if_pos hft, if_neg (by omega)]
  · rw [if_neg hft, if_pos (by omega)]
theorem full_few {d : DS} {i : Nat} (hf : Few d i) (p : Path) (b : List UInt8) (hb : b.length ≤ 5000) : Few { d with fs := put p ⟨b, false⟩ d.fs } (i + 1) := by
  have h1 := tot_put hf.up p ⟨b, false⟩
  have h2 := put_length hf.up p (⟨b, false⟩ : Fil)
  have h3 : (⟨b, false⟩ : Fil).b.length = b.length := rfl
  have hl := hf.len
  have ht := hf.tot
  refine ⟨put_up hf.up, ?_, ?_⟩
  · show (put p (⟨b, false⟩ : Fil) d.fs).length ≤ i + 1
    rw [h2]; split <;> omega
  · show Dk.tot (put p (⟨b, false⟩ : Fil) d.fs) ≤ (i + 1) * 5000
    omega
theorem full_delete {d : DS} {n : Nat} (h : DS.calm d n) (p : Path) (hp : okP p = true) : deletes none d p = if (get p d.fs).isSome then (0, none, { d with fs := del p d.fs }) else (6, none, d) := by
  have hb := calm_begins h [p] (by simp [hp])
  unfold deletes opens
  rw [hb]
  simp only [if_pos]
  cases hg : get p d.fs with
  | none => simp
  | some f => simp
theorem gone_del {α : Type} {l : L α} (hu : Up l) {p : Path} (hg : get p l = none) : del p l = l := del_none fun e he h => by
  have := get_of_mem hu (p := e.1) (x := e.2) he
  rw [h, hg] at this
  cases this
theorem full_delete2 {d : DS} {n i : Nat} (h : DS.calm d n) (hf : Few d i) (p : Path) (hp : okP p = true) : deletes none d p = (if (get p d.fs).isSome then 0 else 6, none, { d with fs := del p d.fs }) := by
  rw [full_delete h p hp]
  cases hg : get p d.fs with
  | none => rw [gone_del hf.up hg]; rfl
  | some f => rfl
theorem lens_del (l : L Fil) (p : Path) : del p (lens l) = lens (del p l) := del_mapv _ _ _
theorem lens_put (l : L Fil) (p : Path) (b : List UInt8) : put p b.length (lens l) = lens (put p ⟨b, false⟩ l) := put_mapv (fun f : Fil => f.b.length) p ⟨b, false⟩ l
theorem lens_length (l : L Fil) : (lens l).length = l.length := mapv_length _ _
theorem del_few {d : DS} {i : Nat} (hf : Few d i) (p : Path) : Few { d with fs := del p d.fs } (i + 1) ∧ tot (del p d.fs) + olen p d.fs = tot d.fs := by
  have h1 := tot_del hf.up p
  have h2 := del_length hf.up p
  have hl := hf.len
  have ht := hf.tot
  refine ⟨⟨del_up hf.up p, ?_, ?_⟩, h1⟩
  · show (del p d.fs).length ≤ i + 1
    omega
  · show Dk.tot (del p d.fs) ≤ (i + 1) * 5000
    omega
end Go.Proofs.Ytnphkddhckcpmaa
