/-
  A drawn region once operation k has come: another S and another k may be held from there. No statement about the program.
  DiskFull: a map from paths to numbers; the plain law.
  A disk's life of deeds 0 to 6; what a rename leaves: the plain law.
  DiskCrash: the walk.
  A life in which anything may befall a disk: how many files, how many bytes, how many operations.
-/
import Derived.Test.YtnphkddhckcpmaaD4
import Derived.Test.YtnphkddhckcpmaaD3
import Derived.Test.YtnphkddhckcpmaaD6
import Derived.BigQuiet
import Derived.Test.YtnphkddhckcpmaaD7
/-! XUagain: A drawn region once operation k has come: another S and another k may be held from there. No statement about the program. -/
namespace Go.Proofs.Ytnphkddhckcpmaa
section
variable {P : Program} {md : Region.Mode} {ops : Array Oper} {Q : Exit → Act → World → Prop}
theorem getD_set_true {listed : Array Bool} {k : Nat} (h : listed.getD k true = true) (i : Nat) : (listed.setIfInBounds i true).getD k true = true := by
  simp only [Array.getD_eq_getD_getElem?, Array.getElem?_setIfInBounds] at h ⊢
  split
  · split <;> rfl
  · exact h
/-- S, k are spent once k is listed: go on with S', k'. -/
theorem wpU_again {S S' : World → Prop} {k k' : Nat} : ∀ (fuel : Nat) (listed : Array Bool) (a : Act) (w : World), listed.getD k true = true → wpU P md ops Q S' k' fuel listed a w → wpU P md ops Q S k fuel listed a w
  | 0, _, _, _, _, h => h
  | fuel + 1, _, _, _, hk, h => ⟨h.1, fun i hi => wpOp_mono (fun a' w' h' => ⟨fun hf => absurd (hf.symm.trans (getD_set_true hk i)) Bool.false_ne_true, wpU_again fuel _ a' w' (getD_set_true hk i) h'.2⟩) (h.2 i hi)⟩
end
end Go.Proofs.Ytnphkddhckcpmaa
/-! XDkFp: DiskFull: a map from paths to numbers; the plain law. -/
namespace Go.Proofs.Ytnphkddhckcpmaa
open Go.RowKit Dk Go.WideShapes Go.ChangeMaps Go.MapKept
set_option maxRecDepth 100000
set_option maxHeartbeats 4000000

/-- How a number reads as a map's element. -/
def Ri (v : Value) : Option (DataW Unit × List MemPlace) :=
  match v with
  | .int .i64 z => some (.lit (.int .i64 z), [])
  | _ => none
theorem Ri_mk (q : Nat) : Ri (.int .i64 (q : Int)) = some (.lit (.int .i64 q), []) := rfl
theorem Ri_inv {v : Value} {q : Int} {ps : List MemPlace} (h : Ri v = some (.lit (.int .i64 q), ps)) : v = .int .i64 q := by
  unfold Ri at h
  split at h
  · simp only [Option.some.injEq, Prod.mk.injEq, DataW.lit.injEq, Lit.int.injEq, true_and] at h
    rw [h.1]
  · cases h
/-- Block m is a map from these paths to these numbers. -/
def SMap (w : World) (m : Nat) (l : L Nat) : Prop := w.ownsMap Try.prog 9 Ri m l.length (Dm l)
theorem SMap.tighten {w : World} {m n : Nat} {l : L Nat} (h : w.ownsMap Try.prog 9 Ri m n (Dm l)) : SMap w m l := by
  obtain ⟨es, clock, hb, F, hs, hD⟩ := h
  refine ⟨es, clock, hb, F, ?_, hD⟩
  have h1 : Maps.size (Dm l) = Maps.size (DataW.map ((es.toList.map (Go.WideElems.rg Try.prog 9 Ri)).foldr DataW.insert [])) := by rw [← hD]
  rw [Dm_size] at h1
  have h2 : (DataW.map ((es.toList.map (Go.WideElems.rg Try.prog 9 Ri)).foldr DataW.insert [])) = .map ((es.toList.map (Go.WideElems.rg Try.prog 9 Ri)).foldr DataW.insert []) := rfl
  rw [Maps.size_eq, length_sorted] at h1
  simp at h1
  omega
theorem SMap.lt {w : World} {m : Nat} {l : L Nat} (h : SMap w m l) : m < w.heap.size := World.ownsMap.lt h
theorem SMap.chg {S : Nat → Prop} {w w' : World} {m : Nat} {l : L Nat} (h : SMap w m l) (k : Chg S w w') (hn : ¬ S m) : SMap w' m l := by
  have hlt := h.lt
  obtain ⟨es, clock, hb, F, hs, hD⟩ := h
  exact ⟨es, clock, (k.block m hlt hn).trans hb, F, hs, hD⟩
def smapT (m : Nat) (l : L Nat) : Thing := ⟨fun w T => SMap w m l ∧ ∀ b, T b ↔ m = b, fun h b hb => by rw [← (h.2 b).1 hb]; exact h.1.lt, fun h hc hn => ⟨h.1.chg hc (hn m ((h.2 m).2 rfl)), h.2⟩⟩
theorem zint (w : World) : (zeroValue 3).run Try.prog w = .ok (.int .i64 0) w := by kernel_rfl
section
variable {w0 w : World} {Y : Thing} {m : Nat} {l : L Nat}
theorem Lab.smap (h : Lab w0 w (smapT m l)) : SMap w m l := by obtain ⟨T, h⟩ := h.get; exact h.1
theorem Lab.mmade (h : Lab w0 w Y) : Lab w0 (w.alloc (.map #[] 0)) ((smapT w.heap.size []).star Y) :=
  h.new ((Ext.refl w).alloc (Nat.le_refl _) _) (X := smapT w.heap.size []) (T := fun b => w.heap.size = b) ⟨World.ownsMap_made w Try.prog 9 Ri, fun _ => Iff.rfl⟩ fun _ hb => Nat.le_of_eq hb
theorem SMap.look (h : SMap w m l) (p : Path) (hp : p.length ≤ maxLen) :
    (Instr.lookup 43 (.map (some m)) (.string (bstr p)) false).run Try.prog w = .ok (.int .i64 ((get p l).getD 0 : Nat)) w := by
  obtain ⟨v, ps, h1, h2⟩ := World.ownsMap.lookup h kstr Try.underlying43 (zint w) (zd := .lit (.int .i64 0)) (zp := []) rfl (keystr p hp)
  rw [Dm_at] at h2
  rw [h1]
  cases hg : get p l with
  | some q =>
    rw [hg] at h2
    rw [Ri_inv h2]; rfl
  | none =>
    rw [hg] at h2
    rw [Ri_inv h2]; rfl
theorem SMap.lookok (h : SMap w m l) (p : Path) (hp : p.length ≤ maxLen) :
    (Instr.lookup 43 (.map (some m)) (.string (bstr p)) true).run Try.prog w = .ok (.tuple #[.int .i64 ((get p l).getD 0 : Nat), .bool (get p l).isSome]) w := by
  obtain ⟨v, ps, h1, h2⟩ := World.ownsMap.look_ok h kstr Try.underlying43 (zint w) (zd := .lit (.int .i64 0)) (zp := []) rfl (keystr p hp)
  rw [Dm_has] at h1
  rw [Dm_at] at h2
  rw [h1]
  cases hg : get p l with
  | some q =>
    rw [hg] at h2
    rw [Ri_inv h2]; rfl
  | none =>
    rw [hg] at h2
    rw [Ri_inv h2]; rfl
theorem SMap.len (h : SMap w m l) (ty : TypeId) : (Builtin.len_ #[43] ty #[.map (some m)]).run Try.prog w = .ok (.int .i64 (l.length : Nat)) w := by
  have := World.ownsMap.len h Try.underlying43 ty
  rw [Dm_size] at this
  exact this
theorem Lab.mput (h : Lab w0 w ((smapT m l).star Y)) (p : Path) (hp : p.length ≤ maxLen) (q : Nat) (hl : l.length < 100000) :
    ∃ w', (Instr.mapUpdate 43 (.map (some m)) (.string (bstr p)) (.int .i64 (q : Int))).run Try.prog w = .ok () w' ∧ Lab w0 w' ((smapT m (Dk.put p q l)).star Y) := by
  obtain ⟨w', h1, h2, h3⟩ := World.ownsMap.update h.left.smap kstr Try.underlying43 (by unfold maxLen; omega) (keystr p hp) (Ri_mk q)
  rw [Dm_put] at h2
  exact ⟨w', h1, h.made fun T hT => ⟨(Chg.refl T w).grown h3 fun k hk => .inl ((hT.2 k).2 (Option.some.inj hk)), fun b => m = b, fun b hb => .inl ((hT.2 b).2 hb), SMap.tighten h2, fun _ => Iff.rfl⟩⟩
theorem Lab.mdel (h : Lab w0 w ((smapT m l).star Y)) (p : Path) (hp : p.length ≤ maxLen) (ty : TypeId) :
    ∃ w', (Builtin.delete_ #[43, 9] ty #[.map (some m), .string (bstr p)]).run Try.prog w = .ok (.tuple #[]) w' ∧ Lab w0 w' ((smapT m (Dk.del p l)).star Y) := by
  obtain ⟨w', h1, h2, h3⟩ := World.ownsMap.drop h.left.smap kstr Try.underlying43 (keystr p hp) ty
  rw [Dm_del] at h2
  exact ⟨w', h1, h.made fun T hT => ⟨(Chg.refl T w).grown h3.grown fun k hk => .inl ((hT.2 k).2 (Option.some.inj hk)), fun b => m = b, fun b hb => .inl ((hT.2 b).2 hb), SMap.tighten h2, fun _ => Iff.rfl⟩⟩
end
/-- How long each is. -/
def lens (l : L Fil) : L Nat := mapv (fun f => f.b.length) l
theorem lens_get (l : L Fil) (p : Path) : (get p (lens l)).getD 0 = olen p l ∧ (get p (lens l)).isSome = (get p l).isSome := by
  unfold lens olen
  rw [get_mapv]
  cases get p l <;> exact ⟨rfl, rfl⟩
theorem full_write {d : DS} {n i : Nat} (h : DS.calm d n) (hf : Few d i) (p : Path) (hp : okP p = true) (b : List UInt8) (hb : b.length ≤ 5000) (hi : i < 4096) :
    writes none d p b = if tot d.fs + b.length ≤ n + olen p d.fs then (0, none, { d with fs := put p ⟨b, false⟩ d.fs }) else (8, none, d) := by
  have hl := hf.len
  unfold writes
  rw [calm_begins h [p] (by simp [hp])]
  obtain ⟨mn, hmn⟩ : ∃ mn, (if (get p d.fs).isSome then d.fs.length else d.fs.length + 1) = mn := ⟨_, rfl⟩
  have hmn2 : mn ≤ 4096 := by rw [← hmn]; split <;> omega
  have hm := h.1
  simp only [hmn]
  rw [if_neg (by simp), if_neg (by omega)]
  by_cases hft : tot d.fs + b.length ≤ n + olen p d.fs
  · rw [if_pos hft, if_neg (by omega)]
  · rw [if_neg hft, if_pos (by omega)]
theorem full_few {d : DS} {i : Nat} (hf : Few d i) (p : Path) (b : List UInt8) (hb : b.length ≤ 5000) : Few { d with fs := put p ⟨b, false⟩ d.fs } (i + 1) := by
  have h1 := tot_put hf.up p ⟨b, false⟩
  have h2 := put_length hf.up p (⟨b, false⟩ : Fil)
  have h3 : (⟨b, false⟩ : Fil).b.length = b.length := rfl
  have hl := hf.len
  have ht := hf.tot
  refine ⟨put_up hf.up, ?_, ?_⟩
  · show (put p (⟨b, false⟩ : Fil) d.fs).length ≤ i + 1
    rw [h2]; split <;> omega
  · show Dk.tot (put p (⟨b, false⟩ : Fil) d.fs) ≤ (i + 1) * 5000
    omega
theorem full_delete {d : DS} {n : Nat} (h : DS.calm d n) (p : Path) (hp : okP p = true) : deletes none d p = if (get p d.fs).isSome then (0, none, { d with fs := del p d.fs }) else (6, none, d) := by
  have hb := calm_begins h [p] (by simp [hp])
  unfold deletes opens
  rw [hb]
  simp only [if_pos]
  cases hg : get p d.fs with
  | none => simp
  | some f => simp
theorem gone_del {α : Type} {l : L α} (hu : Up l) {p : Path} (hg : get p l = none) : del p l = l := del_none fun e he h => by
  have := get_of_mem hu (p := e.1) (x := e.2) he
  rw [h, hg] at this
  cases this
theorem full_delete2 {d : DS} {n i : Nat} (h : DS.calm d n) (hf : Few d i) (p : Path) (hp : okP p = true) : deletes none d p = (if (get p d.fs).isSome then 0 else 6, none, { d with fs := del p d.fs }) := by
  rw [full_delete h p hp]
  cases hg : get p d.fs with
  | none => rw [gone_del hf.up hg]; rfl
  | some f => rfl
theorem lens_del (l : L Fil) (p : Path) : del p (lens l) = lens (del p l) := del_mapv _ _ _
theorem lens_put (l : L Fil) (p : Path) (b : List UInt8) : put p b.length (lens l) = lens (put p ⟨b, false⟩ l) := put_mapv (fun f : Fil => f.b.length) p ⟨b, false⟩ l
theorem lens_length (l : L Fil) : (lens l).length = l.length := mapv_length _ _
theorem del_few {d : DS} {i : Nat} (hf : Few d i) (p : Path) : Few { d with fs := del p d.fs } (i + 1) ∧ tot (del p d.fs) + olen p d.fs = tot d.fs := by
  have h1 := tot_del hf.up p
  have h2 := del_length hf.up p
  have hl := hf.len
  have ht := hf.tot
  refine ⟨⟨del_up hf.up p, ?_, ?_⟩, h1⟩
  · show (del p d.fs).length ≤ i + 1
    omega
  · show Dk.tot (del p d.fs) ≤ (i + 1) * 5000
    omega
end Go.Proofs.Ytnphkddhckcpmaa
/-! XDkRp: A disk's life of deeds 0 to 6; what a rename leaves: the plain law. -/
namespace Go.Proofs.Ytnphkddhckcpmaa
open Go.RowKit Dk
set_option maxRecDepth 100000
set_option maxHeartbeats 4000000

theorem okP_le {p : Path} (h : okP p = true) : p.length ≤ 600 := by unfold okP at h; exact (of_decide_eq_true h).2
theorem Thing.Ent.fourth {X Y Z V R : Thing} : (X.star (Y.star (Z.star (V.star R)))).Ent (V.star (X.star (Y.star (Z.star R)))) := (Thing.Ent.star (.refl _) (.trans (.star (.refl _) .swap) .swap)).trans .swap
/-- The fourth and the fifth ahead. -/
theorem Lab.front2 {w0 w : World} {X Y Z A B R : Thing} (h : Lab w0 w (X.star (Y.star (Z.star (A.star (B.star R)))))) : Lab w0 w (A.star (B.star (X.star (Y.star (Z.star R))))) := (h.ent .fourth).ent (.star (.refl _) .fourth)
def lookb (p : Path) (l : L Fil) : List UInt8 := match Dk.get p l with | some f => f.b | none => []
def looks (p : Path) (l : L Fil) : Bool := match Dk.get p l with | some f => f.sure | none => false
theorem Lab.look2 {w0 w : World} {Z : Thing} {s : Nat} {fp : Option Nat} {d : DS} (hL : Lab w0 w Z) (hS : Lab w0 w (simT s fp d)) (p : Path) (hp : p.length ≤ maxLen) (ht : tot d.fs ≤ 1099511627776) :
    Calls Try.prog 29 #[.pointer (some ⟨s, 0, none⟩), .string (bstr p)] w fun e w' => ∃ u, e = .returned (.tuple #[u, .bool (looks p d.fs), .bool (Dk.get p d.fs).isSome]) ∧ Lab w0 w' ((ownT 5 u (bvs (lookb p d.fs))).star Z) := by
  have h := hL.look hS p hp ht
  unfold looks lookb
  cases hg : Dk.get p d.fs with
  | none => simp only [hg] at h; exact h
  | some f => simp only [hg] at h; exact h
structure Life (n : Nat) (d : DS) (i : Nat) : Prop where
  calm : DS.calm d n
  few : Few d i
  ok : ∀ e ∈ d.fs, okP e.1 = true
theorem Life.start (n : Nat) : Life n ⟨n, false, 0, []⟩ 0 := ⟨⟨rfl, rfl, rfl⟩, ⟨Up.nil, Nat.le_refl _, Nat.le_refl _⟩, by simp⟩
theorem Life.more {n : Nat} {d : DS} {i : Nat} (h : Life n d i) : Life n d (i + 1) := ⟨h.calm, h.few.more, h.ok⟩
theorem calm_begins2 {d : DS} {n : Nat} (h : DS.calm d n) (ps : List Path) : begins none d ps = (if ps.all okP = true then 0 else 1, none, d) := by
  unfold begins
  rw [h.2.1, h.2.2]
  cases hp : ps.all okP <;> rfl
theorem calm_opens {d : DS} {n : Nat} (h : DS.calm d n) (p : Path) (more : List Path) : opens none d p more = if (p :: more).all okP = true then (if (get p d.fs).isSome then 0 else 6) else 1 := by
  unfold opens
  rw [calm_begins2 h]
  cases (p :: more).all okP <;> rfl
theorem Life.put {n : Nat} {d : DS} {i : Nat} (h : Life n d i) {p : Path} (hp : okP p = true) {f : Fil} (hf : f.b.length ≤ 5000 ∨ ∃ g, get p d.fs = some g ∧ f.b.length ≤ g.b.length) : Life n { d with fs := put p f d.fs } (i + 1) := by
  have h1 := tot_put h.few.up p f
  have h2 := put_length h.few.up p f
  have hl := h.few.len
  have ht := h.few.tot
  have ho : olen p d.fs ≤ tot d.fs := olen_le p d.fs
  refine ⟨h.calm, ⟨put_up h.few.up, ?_, ?_⟩, fun e he => ?_⟩
  · show (Dk.put p f d.fs).length ≤ i + 1
    rw [h2]; split <;> omega
  · show Dk.tot (Dk.put p f d.fs) ≤ (i + 1) * 5000
    rcases hf with hf | ⟨g, hg, hf⟩
    · omega
    · have : olen p d.fs = g.b.length := by unfold olen; rw [hg]
      omega
  · rcases mem_put.1 he with rfl | ⟨he, -⟩
    · exact hp
    · exact h.ok e he
theorem Life.del {n : Nat} {d : DS} {i : Nat} (h : Life n d i) (p : Path) : Life n { d with fs := del p d.fs } (i + 1) :=
  ⟨h.calm, (del_few h.few p).1, fun e he => h.ok e (mem_del.1 he).1⟩
/-- What a rename of what is there leaves. -/
def moved (p q : Path) (f : Fil) (l : L Fil) : L Fil := if p = q then l else del p (Dk.put q f l)
theorem Life.move {n : Nat} {d : DS} {i : Nat} (h : Life n d i) {p q : Path} (hq : okP q = true) {f : Fil} (hf : get p d.fs = some f) : Life n { d with fs := moved p q f d.fs } (i + 1) ∧ tot (moved p q f d.fs) + (if p = q then 0 else olen q d.fs) = tot d.fs := by
  unfold moved
  by_cases hpq : p = q
  · rw [if_pos hpq, if_pos hpq]; exact ⟨h.more, rfl⟩
  · rw [if_neg hpq, if_neg hpq]
    have h1 := tot_put h.few.up q f
    have h2 := put_length h.few.up q f
    have hu := put_up (p := q) (x := f) h.few.up
    have h3 := tot_del hu p
    have h4 := del_length hu p
    have hg : get p (Dk.put q f d.fs) = some f := by rw [get_put h.few.up, if_neg (fun e => hpq e.symm), hf]
    have h5 : olen p (Dk.put q f d.fs) = f.b.length := by unfold olen; rw [hg]
    rw [hg] at h4
    have hl := h.few.len
    have ht := h.few.tot
    refine ⟨⟨h.calm, ⟨del_up hu p, ?_, ?_⟩, fun e he => ?_⟩, by omega⟩
    · show (Dk.del p (Dk.put q f d.fs)).length ≤ i + 1
      simp only [Option.isSome_some, if_true] at h4
      have : (Dk.put q f d.fs).length ≤ d.fs.length + 1 := by rw [h2]; split <;> omega
      omega
    · show Dk.tot (Dk.del p (Dk.put q f d.fs)) ≤ (i + 1) * 5000
      omega
    · rcases mem_put.1 (mem_del.1 he).1 with rfl | ⟨he, -⟩
      · exact hq
      · exact h.ok e he
theorem calm_renames {n : Nat} {d : DS} {i : Nat} (h : Life n d i) {p q : Path} (hp : okP p = true) (hq : okP q = true) {f : Fil} (hf : get p d.fs = some f) : renames none d p q = (0, none, { d with fs := moved p q f d.fs }) := by
  unfold renames moved
  rw [calm_opens h.calm, calm_begins2 h.calm, hf]
  simp only [List.all_cons, List.all_nil, hp, hq, Bool.and_true, if_true, Option.isSome_some]
  by_cases hpq : p = q
  · rw [if_pos hpq, if_pos hpq]
  · rw [if_neg hpq, if_neg hpq]
theorem moved_get {d : DS} (hu : Up d.fs) {p q : Path} {f : Fil} (hf : get p d.fs = some f) : get q (moved p q f d.fs) = some f ∧ (get p (moved p q f d.fs)).isSome = (p == q) := by
  unfold moved
  by_cases hpq : p = q
  · subst hpq; rw [if_pos rfl, hf]; simp
  · rw [if_neg hpq]
    have hb : (p == q) = false := by simpa using hpq
    rw [get_del, if_neg hpq, get_put hu, if_pos rfl, get_del, if_pos rfl, hb]
    exact ⟨rfl, rfl⟩
theorem Life.step {n : Nat} {d : DS} {i : Nat} {x : Deed} (h : Life n d i) (hx : x.data.length ≤ 5000) : (stepB none d x).1 = none ∧ Life n (stepB none d x).2 (i + 1) := by
  obtain ⟨xd, xn, xa, xb, xt⟩ := x
  have hx : xt.length ≤ 5000 := hx
  have hw : (writes none d xa xt).2.1 = none ∧ Life n (writes none d xa xt).2.2 (i + 1) := by
    unfold writes
    rw [calm_begins2 h.calm]
    cases hp : ([xa].all okP) with
    | false => simp only [Bool.false_eq_true, if_false]; rw [if_pos (by decide)]; exact ⟨rfl, h.more⟩
    | true =>
      have hok : okP xa = true := by simpa using hp
      obtain ⟨mn, hmn⟩ : ∃ mn, (if (get xa d.fs).isSome then d.fs.length else d.fs.length + 1) = mn := ⟨_, rfl⟩
      simp only [hmn, if_true]
      rw [if_neg (by simp)]
      by_cases h2 : 262144 < xt.length
      · rw [if_pos h2]; exact ⟨rfl, h.more⟩
      · rw [if_neg h2]
        by_cases h3 : d.most + olen xa d.fs < tot d.fs + xt.length ∨ 4096 < mn
        · rw [if_pos h3]; exact ⟨rfl, h.more⟩
        · rw [if_neg h3]; exact ⟨rfl, h.put hok (.inl hx)⟩
  unfold stepB
  simp only
  by_cases c0 : xd = 0
  · rw [if_pos c0, calm_begins2 h.calm]; exact ⟨rfl, h.more⟩
  rw [if_neg c0]
  by_cases c1 : xd = 1
  · rw [if_pos c1]; exact hw
  rw [if_neg c1]
  by_cases c2 : xd = 2
  · rw [if_pos c2]; exact hw
  rw [if_neg c2]
  by_cases c3 : xd = 3
  · rw [if_pos c3]
    unfold syncs
    rw [calm_opens h.calm, calm_begins2 h.calm]
    cases hp : ([xa].all okP) with
    | false => simp only [Bool.false_eq_true, if_false]; exact ⟨rfl, h.more⟩
    | true =>
      have hok : okP xa = true := by simpa using hp
      simp only [if_true]
      cases hg : get xa d.fs with
      | none => exact ⟨rfl, h.more⟩
      | some f => exact ⟨rfl, h.put hok (.inr ⟨f, hg, Nat.le_refl _⟩)⟩
  rw [if_neg c3]
  by_cases c4 : xd = 4
  · rw [if_pos c4]
    cases hp : ([xa, xb].all okP) with
    | false =>
      unfold renames
      rw [calm_opens h.calm, calm_begins2 h.calm, hp]
      simp only [Bool.false_eq_true, if_false]; exact ⟨rfl, h.more⟩
    | true =>
      have hok : okP xa = true ∧ okP xb = true := by simpa using hp
      cases hg : get xa d.fs with
      | none =>
        unfold renames
        rw [calm_opens h.calm, calm_begins2 h.calm, hp, hg]
        exact ⟨rfl, h.more⟩
      | some f =>
        rw [calm_renames h hok.1 hok.2 hg]
        exact ⟨rfl, (h.move hok.2 hg).1⟩
  rw [if_neg c4]
  by_cases c5 : xd = 5
  · rw [if_pos c5]
    unfold deletes
    rw [calm_opens h.calm, calm_begins2 h.calm]
    cases hp : ([xa].all okP) with
    | false => simp only [Bool.false_eq_true, if_false]; exact ⟨rfl, h.more⟩
    | true =>
      simp only [if_true]
      cases hg : get xa d.fs with
      | none => exact ⟨rfl, h.more⟩
      | some f => exact ⟨rfl, h.del xa⟩
  rw [if_neg c5, calm_begins2 h.calm]
  exact ⟨rfl, h.more⟩
end Go.Proofs.Ytnphkddhckcpmaa
/-! XDkCr: DiskCrash: the walk. -/
namespace Go.Proofs.Ytnphkddhckcpmaa
open Go.RowKit Dk
set_option maxRecDepth 100000
set_option maxHeartbeats 4000000
attribute [local go_sem] min_int2 max_int2 bstr_toList bstr_size

theorem info_bo : (Try.prog.info? 4).map (fun i => (i.zero, i.size, i.bytes)) = some (some (.bool false), 1, 1) := by kernel_rfl
theorem Lab.fifth {w0 w : World} {X Y Z V U R : Thing} (h : Lab w0 w (X.star (Y.star (Z.star (V.star (U.star R)))))) : Lab w0 w (U.star (X.star (Y.star (Z.star (V.star R))))) := (h.ent (.star (.refl _) .fourth)).swap
/-- What was looked at of the first i: bytes, marks. -/
def crd (d : DS) (ps : List Path) (i : Nat) : List Value := pvs ((ps.take i).map fun q => lookb q d.fs)
def crs (d : DS) (ps : List Path) (i : Nat) : List Value := (ps.take i).map fun q => .bool (looks q d.fs)
def CrI (w wq : World) (s : Nat) (d : DS) (va : Option Addr) (vc m : Nat) (ps : List Path) (da : Option Addr) (dc : Nat) (sa : Option Addr) (sc i : Nat) : Prop :=
  Lab w wq ((ownT 9 (.slice da i dc) (crd d ps i)).star ((ownT 4 (.slice sa i sc) (crs d ps i)).star ((ownT 9 (.slice va m vc) (pvs ps)).star ((fuseT none none).star ((simT s none d).star emp)))))
def CrJ (w wq : World) (s : Nat) (d d2 : DS) (va : Option Addr) (vc : Nat) (xa : Option Addr) (xc m : Nat) (ps : List Path) (da : Option Addr) (dc : Nat) (sa : Option Addr) (sc : Nat) : Prop :=
  Lab w wq ((ownT 9 (.slice xa m xc) (pvs ps)).star ((simT s none d2).star ((ownT 9 (.slice da m dc) (crd d ps m)).star ((ownT 4 (.slice sa m sc) (crs d ps m)).star ((ownT 9 (.slice va m vc) (pvs ps)).star ((fuseT none none).star emp))))))
theorem tot_cut (k : Nat) (l : L Fil) : tot (mapv (cutf k) l) ≤ tot l := by
  induction l with
  | nil => exact Nat.le_refl _
  | cons e l ih =>
    show tot ((e.1, cutf k e.2) :: mapv (cutf k) l) ≤ _
    rw [tot_cons, tot_cons]
    have : (cutf k e.2).b.length ≤ e.2.b.length := by
      unfold cutf
      split
      · exact Nat.le_refl _
      · simp only [List.length_take]; omega
    show (cutf k e.2).b.length + _ ≤ _
    omega
theorem cut_facts (k : Nat) (f : Fil) : (cutf k f).sure = true ∧ (cutf k f).b.length ≤ f.b.length ∧ (bstr f.b).extract 0 (cutf k f).b.length = bstr (cutf k f).b ∧ (f.sure = true → (cutf k f).b.length = f.b.length) := by
  have key : ∀ n, n ≤ f.b.length → (bstr f.b).extract 0 n = bstr (f.b.take n) := fun n hn => by
    apply ByteArray.ext
    rw [ByteArray.data_extract]
    simp [bstr]
  unfold cutf
  cases hs : f.sure with
  | true =>
    simp only [if_true]
    refine ⟨hs, Nat.le_refl _, ?_, fun _ => trivial⟩
    rw [key _ (Nat.le_refl _), List.take_length]
  | false =>
    simp only [Bool.false_eq_true, if_false]
    have hl : (f.b.take (k % (f.b.length + 1))).length = k % (f.b.length + 1) := by
      rw [List.length_take]
      have := Nat.mod_lt k (show 0 < f.b.length + 1 by omega)
      omega
    refine ⟨trivial, by rw [List.length_take]; omega, ?_, fun h => by cases h⟩
    rw [hl, key _ (by have := Nat.mod_lt k (show 0 < f.b.length + 1 by omega); omega)]
theorem crash_law (w : World) (v : Value) (l : List Deed) (hV : Deeds w v l) (hl : l.length ≤ maxLen) (keep : Int) (hk : -9223372036854775808 ≤ keep ∧ keep ≤ 9223372036854775807) :
    Calls Try.prog 9 #[v, .int .i64 keep] w fun e w' => e = .returned (.bool true) ∧ Ext w w' := by
  obtain ⟨a, c, rfl⟩ := hV.form
  have HV := Lib.hid hV
  have HL := Lib.hid hl
  clear hV hl
  have HK := Lib.hid hk
  clear hk
  go_enter Try.func9, Try.ntmps9
  go_wp2_with fail
  refine (dawake_any _).mono ?_; rintro e w1 ⟨rfl, x1⟩
  have HV1 := Lib.hid (HV.out.ext x1)
  have X1 := Lib.hid x1
  have LY := Lib.hid (show Lab w w1 emp from (Lab.start w).ext X1.out)
  clear x1
  go_wp2_with fail
  by_cases hR : l.length ≤ 80 ∧ ∀ x ∈ l, x.small
  case neg =>
    have HR := Lib.hid hR
    clear hR
    refine (room_any _ l 80 false (by omega) ⟨(fun h => Bool.noConfusion h), fun h => absurd h HR.out⟩ HL.out _ HV1.out).mono ?_; rintro e w' ⟨rfl, rfl⟩
    go_wp2_with fail
    go_ret
    exact ⟨rfl, X1.out⟩
  have HR := Lib.hid hR
  have hl40 : l.length ≤ 80 := hR.1
  clear hR
  refine (room_any _ l 80 true (by omega) ⟨fun _ => HR.out, fun _ => rfl⟩ HL.out _ HV1.out).mono ?_; rintro e w' ⟨rfl, rfl⟩
  go_wp2_with fail
  refine (Lab.newdisk 5000 (LY.out.nofuse)).mono ?_; rintro e w2 ⟨s, rfl, hL⟩
  have L2 := Lib.hid (show Lab w w2 ((fuseT none none).star ((simT s none ⟨5000, false, 0, []⟩).star emp)) from hL)
  clear hL
  go_wp2_with fail
  refine (Lab.newref 5000 L2.out.rnofuse).mono ?_; rintro e w3 ⟨r, rfl, hL⟩
  have L3 := Lib.hid (show Lab w w3 ((rfuseT none none).star ((refT r none ⟨5000, false, 0, []⟩).star ((fuseT none none).star ((simT s none ⟨5000, false, 0, []⟩).star emp)))) from hL)
  clear hL L2
  have LI := Lib.hid (And.intro L3.out.flip (Life.start 5000))
  clear L3
  go_wp2_with fail
  go_loopw [7] (fun v7 wr => ∃ (i : Nat) (d : DS), i ≤ l.length ∧ v7 = .int .i64 (i : Nat) ∧ Hid (Lab w wr ((fuseT none none).star ((simT s none d).star ((rfuseT none none).star ((refT r none d).star emp)))) ∧ Life 5000 d i)) (fun v7 _ => (l.length - intOf v7).toNat)
  case atStart => exact ⟨0, _, by omega, rfl, LI⟩
  case round =>
    obtain ⟨i, d, hi, rfl, HI⟩ := hrel
    by_cases hlt : i < l.length
    · have hlt' : (i : Int) < (l.length : Int) := by omega
      have hx : l[i]? = some l[i] := List.getElem?_eq_getElem hlt
      have hsm := HR.out.2 _ (List.getElem_mem hlt)
      obtain ⟨x, hxx⟩ : ∃ x, l[i] = x := ⟨_, rfl⟩
      rw [hxx] at hx hsm
      obtain ⟨ok, b, o, rfl, da, dc, c0, c1, c2, c3, c4, c5⟩ := HV.out.at hx
      have HD := Lib.hid (And.intro ok (And.intro c5 hsm))
      replace c0 := HI.out.1.toExt.cell c0
      replace c1 := HI.out.1.toExt.cell c1
      replace c2 := HI.out.1.toExt.cell c2
      replace c3 := HI.out.1.toExt.cell c3
      replace c4 := HI.out.1.toExt.cell c4
      clear ok c5 hsm hx hxx
      obtain ⟨xd, xn, xa, xb, xt⟩ := x
      simp only at c0 c1 c2 c3 c4 HD
      by_cases hd : 0 ≤ xd ∧ xd ≤ 6
      · obtain ⟨hd1, hd2⟩ := hd
        have hfl := HI.out.2.few.len
        have hft := HI.out.2.few.tot
        go_wp2_with fail
        refine (both_any w wr emp s r none none _ none d ⟨xd, xn, xa, xb, xt⟩ da dc HI.out.1 ⟨hd1, hd2⟩ (Nat.le_trans HD.out.2.2.1 (by decide)) (Nat.le_trans HD.out.2.2.2.1 (by decide)) HD.out.2.1 (Nat.le_trans HD.out.2.2.2.2 (by decide)) (by decide) (by omega) (by omega)).mono ?_; rintro e w4 ⟨rfl, hL⟩
        have hst := HI.out.2.step (x := ⟨xd, xn, xa, xb, xt⟩) HD.out.2.2.2.2
        rw [hst.1] at hL
        have HN := Lib.hid (And.intro hL hst.2)
        clear hL hst hfl hft c0 c1 c2 c3 c4
        go_wp2_with fail
        exact ⟨⟨i + 1, _, by omega, by go_num, HN⟩, by simp [intOf]; omega⟩
      · have HN := Lib.hid (And.intro HI.out.1 HI.out.2.more)
        by_cases hd1 : 0 ≤ xd
        · have hd2 : ¬ xd ≤ 6 := fun h => hd ⟨hd1, h⟩
          clear hd c1 c2 c3 c4
          go_wp2_with fail
          exact ⟨⟨i + 1, d, by omega, by go_num, HN⟩, by simp [intOf]; omega⟩
        · clear hd c1 c2 c3 c4
          go_wp2_with fail
          exact ⟨⟨i + 1, d, by omega, by go_num, HN⟩, by simp [intOf]; omega⟩
    · obtain rfl : i = l.length := by omega
      clear hlt
      have LS := Lib.hid (show Lab w wr ((fuseT none none).star ((simT s none d).star emp)) from HI.out.1.ent (.star (.refl _) (.star (.refl _) (.trans .right .right))))
      have HLF := Lib.hid HI.out.2
      have hfl : d.fs.length ≤ 80 := by have := HI.out.2.few.len; omega
      have hft : tot d.fs ≤ 400000 := by have := HI.out.2.few.tot; omega
      go_wp2_with fail
      refine (Lab.files LS.out LS.out.right.left (by omega)).mono ?_; rintro e w5 ⟨v, rfl, hL⟩
      obtain ⟨ps, hps⟩ : ∃ ps, paths d.fs = ps := ⟨_, rfl⟩
      rw [hps] at hL
      obtain ⟨m, hm⟩ : ∃ m, ps.length = m := ⟨_, rfl⟩
      have hmd : d.fs.length = m := by rw [← hm, ← hps]; simp [paths]
      obtain ⟨va, vc, hu⟩ := Own.slice' (ownT.own hL.left)
      rw [pvs_len, hm] at hu
      subst hu
      have HPS := Lib.hid (And.intro hps (And.intro hm hmd))
      have hall : ∀ q ∈ ps, okP q = true ∧ (get q d.fs).isSome = true := fun q hq => by
        rw [← HPS.out.1] at hq
        obtain ⟨e, he, rfl⟩ := List.mem_map.1 hq
        exact ⟨HLF.out.ok e he, by rw [get_of_mem HLF.out.few.up (x := e.2) he]; rfl⟩
      have HALL := Lib.hid hall
      have hm80 : m ≤ 80 := by omega
      have L5 := Lib.hid (show CrI w w5 s d va vc m ps none 0 none 0 0 from ownT.nil 9 (ownT.nil 4 hL))
      clear hL hps hm hall
      go_wp2_with fail
      go_loopw [9, 10, 11] (fun v9 v10 v11 wq => ∃ (i : Nat) (da : Option Addr) (dc : Nat) (sa : Option Addr) (sc : Nat), i ≤ m ∧ v11 = .int .i64 (i : Nat) ∧ v9 = .slice da i dc ∧ v10 = .slice sa i sc ∧ Hid (CrI w wq s d va vc m ps da dc sa sc i)) (fun _ _ v11 _ => (m - intOf v11).toNat)
      case atStart => exact ⟨0, _, _, _, _, by omega, rfl, rfl, rfl, L5⟩
      case round =>
        obtain ⟨i, da, dc, sa, sc, hi, rfl, rfl, rfl, HC⟩ := hrel
        by_cases hlt : i < m
        · have hlt' : (i : Int) < (m : Int) := by omega
          obtain ⟨b2, o2, e2, p0⟩ := Strs.at (ownT.own HC.out.right.right.left) (j := i) (by have := HPS.out.2.1; omega)
          cases e2
          have hpi : ps[i]? = some (ps[i]'(by have := HPS.out.2.1; omega)) := List.getElem?_eq_getElem _
          obtain ⟨q, hq⟩ : ∃ q, ps[i]'(by have := HPS.out.2.1; omega) = q := ⟨_, rfl⟩
          rw [hq] at p0 hpi
          have HQ := Lib.hid (And.intro hpi (HALL.out q (by rw [← hq]; exact List.getElem_mem _)))
          clear hpi hq
          go_wp2_with fail
          refine (Lab.look2 HC.out HC.out.right.right.right.right.left q (Nat.le_trans (okP_le HQ.out.2.1) (by decide)) (by omega)).mono ?_; rintro e w6 ⟨u, rfl, hL⟩
          obtain ⟨ua, uc, hu⟩ := Own.slice' (ownT.own hL.left)
          rw [bvs_len] at hu
          subst hu
          have y1 := str_conv (ownT.own hL.left).cells w6 (Ext.refl _)
          have L6 := Lib.hid hL.right
          have HDL := Lib.hid (show (crd d ps i).length = i ∧ (crs d ps i).length = i by have := HPS.out.2.1; unfold crd crs; simp [pvs]; omega)
          have HDN := Lib.hid (show crd d ps i ++ [.string (bstr (lookb q d.fs))] = crd d ps (i + 1) ∧ crs d ps i ++ [.bool (looks q d.fs)] = crs d ps (i + 1) by
            unfold crd crs pvs
            rw [List.take_add_one, HQ.out.1]
            simp)
          clear hL
          go_wp2_with (first | (at_builtin; refine list_of_wp rfl fun K hK => wp_lapp1 _ _ 39 9 (.string ByteArray.empty) 16 rfl Try.underlying39 info_str rfl (by decide) rfl rfl rfl (by rw [HDL.out.1]) L6.out rfl (by rw [HDL.out.1]; omega) fun ad c2 w7 hL => hK _ _ ?_; clear hK) | (at_builtin; refine list_of_wp rfl fun K hK => wp_lapp1 _ _ 65 4 (.bool false) 1 rfl Try.underlying65 info_bo rfl (by decide) rfl rfl rfl (by rw [HDL.out.2]) hL.swap rfl (by rw [HDL.out.2]; omega) fun ad2 c3 w8 hL8 => hK _ _ ?_; clear hK))
          rw [HDN.out.1, HDN.out.2] at hL8
          have HN := Lib.hid (show CrI w w8 s d (some ⟨b2, o2, none⟩) vc m ps ad c2 ad2 c3 (i + 1) from hL8.swap)
          clear hL hL8
          exact ⟨⟨i + 1, ad, c2, ad2, c3, by omega, by go_num, rfl, rfl, HN⟩, by simp [intOf]; omega⟩
        · obtain rfl : m = i := by omega
          clear hlt
          have LC := Lib.hid HC.out.fifth
          go_wp2_with fail
          refine (LC.out.crash keep HK.out (by omega)).mono ?_; rintro e w6 ⟨rfl, hL⟩
          obtain ⟨d2, hd2⟩ : ∃ d2, d.crash keep = d2 := ⟨_, rfl⟩
          rw [hd2] at hL
          have hf2 : d2.fs = mapv (cutf keep.toNat) d.fs := by rw [← hd2]; rfl
          have hp2 : paths d2.fs = ps := by rw [hf2, ← HPS.out.1]; unfold paths mapv; rw [List.map_map]; rfl
          have hl2 : d2.fs.length ≤ 80 := by rw [hf2, mapv_length]; omega
          have ht2 : tot d2.fs ≤ 400000 := Nat.le_trans (by rw [hf2]; exact tot_cut _ _) hft
          have HF2 := Lib.hid hf2
          have L6 := Lib.hid hL
          clear hL hd2 hf2
          go_wp2_with fail
          refine (Lab.files L6.out L6.out.left (by omega)).mono ?_; rintro e w7 ⟨v2, rfl, hL⟩
          rw [hp2] at hL
          obtain ⟨xa, xc, hu⟩ := Own.slice' (ownT.own hL.left)
          rw [pvs_len, HPS.out.2.1] at hu
          subst hu
          have L7 := Lib.hid hL
          clear hL hp2
          go_wp2_with fail
          refine (texts_same _ _ ps _ (ownT.own L7.out.right.right.right.right.left) (ownT.own L7.out.left) (by rw [HPS.out.2.1]; unfold maxLen; omega)).mono ?_; rintro e w8 ⟨rfl, x8⟩
          have L8 := Lib.hid (L7.out.ext x8)
          clear x8
          go_wp2_with fail
          obtain ⟨d0, hd0⟩ : ∃ d0, d = d0 := ⟨_, rfl⟩
          go_loopw [16] (fun v16 wq => ∃ i : Nat, i ≤ m ∧ v16 = .int .i64 (i : Nat) ∧ Hid (CrJ w wq s d d2 va vc xa xc m ps da dc sa sc)) (fun v16 _ => (m - intOf v16).toNat)
          case atStart => exact ⟨0, by omega, rfl, L8⟩
          case round =>
            obtain ⟨i, hi, rfl, HJ⟩ := hrel
            by_cases hlt : i < m
            · have hlt' : (i : Int) < (m : Int) := by omega
              obtain ⟨b2, o2, e2, p0⟩ := Strs.at (ownT.own HJ.out.left) (j := i) (by have := HPS.out.2.1; omega)
              cases e2
              have hpi : ps[i]? = some (ps[i]'(by have := HPS.out.2.1; omega)) := List.getElem?_eq_getElem _
              obtain ⟨q, hq⟩ : ∃ q, ps[i]'(by have := HPS.out.2.1; omega) = q := ⟨_, rfl⟩
              rw [hq] at p0 hpi
              have HQ := Lib.hid (And.intro hpi (HALL.out q (by rw [← hq]; exact List.getElem_mem _)))
              clear hpi hq
              obtain ⟨f, hf⟩ := Option.isSome_iff_exists.1 HQ.out.2.2
              have hf2 : get q d2.fs = some (cutf keep.toNat f) := by rw [HF2.out, get_mapv, hf]; rfl
              obtain ⟨bb, hbb⟩ : ∃ bb, (cutf keep.toNat f).b = bb := ⟨_, rfl⟩
              have hcut := cut_facts keep.toNat f
              rw [hbb] at hcut
              have HCUT := Lib.hid hcut
              have HLK := Lib.hid (show lookb q d2.fs = bb ∧ looks q d2.fs = true ∧ (get q d2.fs).isSome = true by unfold lookb looks; rw [hf2]; exact ⟨hbb, hcut.1, rfl⟩)
              have hdi : (crd d ps m)[i]? = some (.string (bstr f.b)) := by
                unfold crd pvs
                rw [List.getElem?_map, List.getElem?_map, List.getElem?_take_of_lt hlt, HQ.out.1]
                simp only [Option.map_some]
                unfold lookb; rw [hf]
              have hsi : (crs d ps m)[i]? = some (.bool f.sure) := by
                unfold crs
                rw [List.getElem?_map, List.getElem?_take_of_lt hlt, HQ.out.1]
                simp only [Option.map_some]
                unfold looks; rw [hf]
              have HDI := Lib.hid (And.intro hdi hsi)
              clear hf hf2 hbb hcut hdi hsi
              go_wp2_with fail
              refine (Lab.look2 HJ.out HJ.out.right.left q (Nat.le_trans (okP_le HQ.out.2.1) (by decide)) (by omega)).mono ?_
              rw [HLK.out.1, HLK.out.2.1, HLK.out.2.2]; rintro e w9 ⟨u, rfl, hL⟩
              obtain ⟨ua, uc, hu⟩ := Own.slice' (ownT.own hL.left)
              rw [bvs_len] at hu
              subst hu
              have y0 := str_conv (ownT.own hL.left).cells
              have y1 : ∀ n, (convert 30 9 (.slice ua bb.length uc)).run Try.prog (w9.drewN n) = .ok (.string (bstr bb)) (w9.drewN n) := fun n => y0 _ (Ext.of_drawn w9 n)
              obtain ⟨db, dob, rfl, dd⟩ := Cells.at (ownT.own hL.right.right.right.left).cells HDI.out.1
              obtain ⟨sb, sob, rfl, ss⟩ := Cells.at (ownT.own hL.right.right.right.right.left).cells HDI.out.2
              have HN := Lib.hid hL.right
              obtain ⟨fb, hfb⟩ : ∃ fb, f.b = fb := ⟨_, rfl⟩
              rw [hfb] at dd HCUT
              obtain ⟨sv, hsv⟩ : ∃ sv, f.sure = sv := ⟨_, rfl⟩
              rw [hsv] at ss HCUT
              have z1 : ¬ (fb.length : Int) < (bb.length : Int) := by have := HCUT.out.2.1; omega
              have z2 : bb.length ≤ fb.length := HCUT.out.2.1
              have z3 : (bstr fb).extract 0 bb.length = bstr bb := HCUT.out.2.2.1
              have z6 : decide (fb.length < bb.length) = false := by have := HCUT.out.2.1; simpa using this
              have z4 : (bb.length : Int) ≤ (fb.length : Int) := by omega
              clear hL hfb hsv y0
              cases sv with
              | false =>
                go_wp2_with fail
                go_quiet (fail)
                have HN2 := Lib.hid (HN.out.ext (Ext.of_drawn w9 nq))
                clear dd ss y1
                go_wp2_with fail
                exact ⟨⟨i + 1, by omega, by go_num, HN2⟩, by simp [intOf]; omega⟩
              | true =>
                have z5 : bb.length = fb.length := HCUT.out.2.2.2 rfl
                rw [z5] at y1 z3 ⊢
                clear z1 z2 z4 z6 z5
                have z1 : ¬ (fb.length : Int) < (fb.length : Int) := by omega
                have z2 : fb.length ≤ fb.length := Nat.le_refl _
                have z6 : decide (fb.length < fb.length) = false := by simp
                go_wp2_with fail
                go_quiet (fail)
                have HN2 := Lib.hid (HN.out.ext (Ext.of_drawn w9 nq))
                clear dd ss y1
                go_wp2_with fail
                exact ⟨⟨i + 1, by omega, by go_num, HN2⟩, by simp [intOf]; omega⟩
            · obtain rfl : m = i := by omega
              clear hlt
              go_wp2_with fail
              go_ret
              exact ⟨rfl, HJ.out.toExt⟩
end Go.Proofs.Ytnphkddhckcpmaa
/-! XDkPp: A life in which anything may befall a disk: how many files, how many bytes, how many operations. -/
namespace Go.Proofs.Ytnphkddhckcpmaa
open Go.RowKit Dk
set_option maxRecDepth 100000
set_option maxHeartbeats 4000000

theorem ticks_some (z : FS) : ∃ z', (ticks (some z)).2 = some z' ∧ z'.ops ≤ z.ops + 1 := by
  unfold ticks; simp only
  by_cases hb : z.blown = true
  · rw [if_pos hb]; exact ⟨z, rfl, Nat.le_succ _⟩
  · rw [if_neg hb]; exact ⟨_, rfl, Nat.le_refl _⟩
theorem begins_some (z : FS) (d : DS) (ps : List Path) : (begins (some z) d ps).2.2.fs = d.fs ∧ ∃ z', (begins (some z) d ps).2.1 = some z' ∧ z'.ops ≤ z.ops + 1 := by
  have h := ticks_some z
  unfold begins
  by_cases h1 : (ticks (some z)).1 = false
  · rw [if_pos h1]; exact ⟨rfl, h⟩
  rw [if_neg h1]
  by_cases h2 : d.off = true
  · rw [if_pos h2]; exact ⟨rfl, h⟩
  rw [if_neg h2]
  by_cases h3 : 0 < d.bad
  · rw [if_pos h3]; exact ⟨rfl, h⟩
  rw [if_neg h3]
  by_cases h4 : ps.all okP = true
  · rw [if_pos h4]; exact ⟨rfl, h⟩
  · rw [if_neg h4]; exact ⟨rfl, h⟩
theorem Few.same {d d' : DS} {i : Nat} (h : Few d i) (e : d'.fs = d.fs) : Few d' (i + 1) :=
  ⟨by rw [e]; exact h.up, by rw [e]; have := h.len; omega, by rw [e]; have := h.tot; omega⟩
theorem Few.keep {d d' : DS} {i : Nat} (h : Few d i) (hu : Up d'.fs) (h1 : d'.fs.length ≤ d.fs.length) (h2 : Dk.tot d'.fs ≤ Dk.tot d.fs) : Few d' (i + 1) :=
  ⟨hu, by have := h.len; omega, by have := h.tot; omega⟩
theorem Few.put {d d' : DS} {i : Nat} (h : Few d i) {p : Path} {f : Fil} (hf : f.b.length ≤ 5000 ∨ ∃ g, get p d.fs = some g ∧ f.b.length ≤ g.b.length) (e : d'.fs = Dk.put p f d.fs) : Few d' (i + 1) := by
  have h1 := tot_put h.up p f
  have h2 := put_length h.up p f
  have hl := h.len
  have ht := h.tot
  have ho : olen p d.fs ≤ Dk.tot d.fs := olen_le p d.fs
  refine ⟨by rw [e]; exact put_up h.up, ?_, ?_⟩
  · rw [e, h2]; split <;> omega
  · rw [e]
    rcases hf with hf | ⟨g, hg, hf⟩
    · omega
    · have : olen p d.fs = g.b.length := by unfold olen; rw [hg]
      omega
theorem Few.del {d d' : DS} {i : Nat} (h : Few d i) {p : Path} (e : d'.fs = Dk.del p d.fs) : Few d' (i + 1) := by
  have h1 := (del_few h p).1
  exact ⟨by rw [e]; exact h1.up, by rw [e]; exact h1.len, by rw [e]; exact h1.tot⟩
theorem Few.move {d d' : DS} {i : Nat} (h : Few d i) {p q : Path} (hpq : p ≠ q) {f : Fil} (hf : get p d.fs = some f) (e : d'.fs = Dk.del p (Dk.put q f d.fs)) : Few d' (i + 1) := by
  have h1 := tot_put h.up q f
  have h2 := put_length h.up q f
  have hu := put_up (p := q) (x := f) h.up
  have h3 := tot_del hu p
  have h4 := del_length hu p
  have hg : get p (Dk.put q f d.fs) = some f := by rw [get_put h.up, if_neg (fun e => hpq e.symm), hf]
  have h5 : olen p (Dk.put q f d.fs) = f.b.length := by unfold olen; rw [hg]
  rw [hg] at h4
  have hl := h.len
  have ht := h.tot
  refine ⟨by rw [e]; exact del_up hu p, ?_, ?_⟩
  · rw [e]
    simp only [Option.isSome_some, if_true] at h4
    have : (Dk.put q f d.fs).length ≤ d.fs.length + 1 := by rw [h2]; split <;> omega
    omega
  · rw [e]; omega
theorem stepB_few {z : FS} {d : DS} {i : Nat} {x : Deed} (h : Few d i) (hx : x.data.length ≤ 5000) : Few (stepB (some z) d x).2 (i + 1) ∧ ∃ z', (stepB (some z) d x).1 = some z' ∧ z'.ops ≤ z.ops + 1 := by
  obtain ⟨xd, xn, xa, xb, xt⟩ := x
  have hx : xt.length ≤ 5000 := hx
  have hb := fun ps => begins_some z d ps
  have hw : Few (writes (some z) d xa xt).2.2 (i + 1) ∧ ∃ z', (writes (some z) d xa xt).2.1 = some z' ∧ z'.ops ≤ z.ops + 1 := by
    unfold writes
    split
    · exact ⟨h.same (hb _).1, (hb _).2⟩
    · split
      · exact ⟨h.same (hb _).1, (hb _).2⟩
      · obtain ⟨mn, hmn⟩ : ∃ mn, (if (get xa d.fs).isSome then d.fs.length else d.fs.length + 1) = mn := ⟨_, rfl⟩
        rw [hmn]
        split
        · exact ⟨h.same (hb _).1, (hb _).2⟩
        · exact ⟨h.put (.inl hx) rfl, (hb _).2⟩
  unfold stepB
  simp only
  by_cases c0 : xd = 0
  · rw [if_pos c0]; exact ⟨h.same (hb _).1, (hb _).2⟩
  rw [if_neg c0]
  by_cases c1 : xd = 1
  · rw [if_pos c1]; exact hw
  rw [if_neg c1]
  by_cases c2 : xd = 2
  · rw [if_pos c2]; exact hw
  rw [if_neg c2]
  by_cases c3 : xd = 3
  · rw [if_pos c3]
    unfold syncs
    split
    · rename_i h0
      obtain ⟨-, f, hg⟩ := opens_zero h0
      rw [hg]
      exact ⟨Few.put (d' := { (begins (some z) d [xa]).2.2 with fs := Dk.put xa ⟨f.b, true⟩ d.fs }) h (f := ⟨f.b, true⟩) (.inr ⟨f, hg, Nat.le_refl _⟩) rfl, (hb _).2⟩
    · exact ⟨h.same (hb _).1, (hb _).2⟩
  rw [if_neg c3]
  by_cases c4 : xd = 4
  · rw [if_pos c4]
    unfold renames
    split
    · rename_i h0
      split
      · exact ⟨h.same (hb _).1, (hb _).2⟩
      · rename_i hpq
        obtain ⟨-, f, hg⟩ := opens_zero h0
        rw [hg]
        exact ⟨Few.move (d' := { (begins (some z) d [xa, xb]).2.2 with fs := Dk.del xa (Dk.put xb f d.fs) }) h hpq hg rfl, (hb _).2⟩
    · exact ⟨h.same (hb _).1, (hb _).2⟩
  rw [if_neg c4]
  by_cases c5 : xd = 5
  · rw [if_pos c5]
    unfold deletes
    split
    · exact ⟨h.del rfl, (hb _).2⟩
    · exact ⟨h.same (hb _).1, (hb _).2⟩
  rw [if_neg c5]; exact ⟨h.same (hb _).1, (hb _).2⟩
theorem stepC_few {z : FS} {d : DS} {i : Nat} {x : Deed} (h : Few d i) : Few (stepC z d x).2 (i + 1) ∧ (stepC z d x).1.ops ≤ z.ops + 1 := by
  obtain ⟨xd, xn, xa, xb, xt⟩ := x
  unfold stepC
  simp only
  by_cases c0 : xd = 7
  · rw [if_pos c0]; exact ⟨h.same rfl, Nat.le_succ _⟩
  rw [if_neg c0]
  by_cases c1 : xd = 8
  · rw [if_pos c1]; exact ⟨h.same rfl, Nat.le_succ _⟩
  rw [if_neg c1]
  by_cases c2 : xd = 9
  · rw [if_pos c2]; exact ⟨h.keep Up.nil (Nat.zero_le _) (Nat.zero_le _), Nat.le_succ _⟩
  rw [if_neg c2]
  by_cases c3 : xd = 10
  · rw [if_pos c3]
    refine ⟨?_, Nat.le_succ _⟩
    unfold dflip
    cases hg : get xa d.fs with
    | none => exact h.same rfl
    | some f =>
      show Few (if _ then _ else _) _
      split
      · exact h.put (.inr ⟨f, hg, by rw [flipl_length]; exact Nat.le_refl _⟩) rfl
      · exact h.same rfl
  rw [if_neg c3]
  by_cases c4 : xd = 11
  · rw [if_pos c4]
    exact ⟨h.keep (h.up.mapv _) (Nat.le_of_eq (mapv_length _ _)) (tot_cut _ _), Nat.le_succ _⟩
  rw [if_neg c4]
  by_cases c5 : xd = 12
  · rw [if_pos c5]; exact ⟨h.same rfl, Nat.zero_le _⟩
  rw [if_neg c5]; exact ⟨h.same rfl, Nat.le_succ _⟩
end Go.Proofs.Ytnphkddhckcpmaa
