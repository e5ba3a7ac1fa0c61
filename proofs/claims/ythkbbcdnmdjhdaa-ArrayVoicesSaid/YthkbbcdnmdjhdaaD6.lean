/-
  The reference's disk: List; its disk and its fuse as things of their own.
  Both: what is done on both disks is answered alike.
  The reference's disk: Crash.
-/
import Derived.Test.YthkbbcdnmdjhdaaD5
/-! XRfG: The reference's disk: List; its disk and its fuse as things of their own. -/
namespace Go.Proofs.Ythkbbcdnmdjhdaa
open Go.RowKit Dk
set_option maxRecDepth 100000
set_option maxHeartbeats 4000000
attribute [local go_sem] min_int2 max_int2 bstr_toList bstr_size

def RListOut (r : Nat) (rf : Option Nat) (z : Option FS) (d : DS) (S : Nat → Prop) (p : Path) (w : World) (e : Ending) (w' : World) : Prop :=
  ∃ u, e = .returned (.tuple #[u, .int .i64 ((begins z d []).1 : Nat)]) ∧ Own w' w.heap.size 9 u (pvs (lists z d p)) ∧ RzAt w' rf (begins z d []).2.1 ∧ RefAt w' r rf (begins z d []).2.2 S ∧ Chg (fun b => S b ∨ rf = some b) w w'
def rfuseT (fp : Option Nat) (z : Option FS) : Thing :=
  ⟨fun w T => RzAt w fp z ∧ ∀ b, T b ↔ fp = some b, fun h b hb => h.1.lt b ((h.2 b).1 hb), fun h hc hn => ⟨h.1.chg hc fun b hb => hn b ((h.2 b).2 hb), h.2⟩⟩
def refT (r : Nat) (fp : Option Nat) (d : DS) : Thing := ⟨fun w T => RefAt w r fp d T, fun h => h.lt, fun h hc hn => h.chg hc hn⟩
section
variable {w0 w w' : World} {Y Z : Thing} {r : Nat} {fp : Option Nat} {z : Option FS} {d : DS}
theorem Lab.rz (h : Lab w0 w ((rfuseT fp z).star Z)) : RzAt w fp z := by obtain ⟨T, h⟩ := h.left.get; exact h.1
theorem Lab.rnofuse (h : Lab w0 w Y) : Lab w0 w ((rfuseT none none).star Y) := h.new (Ext.refl w) (T := fun _ => False) ⟨trivial, fun b => ⟨False.elim, fun e => by cases e⟩⟩ fun _ h => h.elim
theorem Lab.newref (n : Int) (h : Lab w0 w ((rfuseT fp z).star Y)) : Calls Try.prog 35 #[.int .i64 n, fptr fp] w fun e w' => ∃ r, e = .returned (.pointer (some ⟨r, 0, none⟩)) ∧ Lab w0 w' ((rfuseT fp z).star ((refT r fp ⟨mostOf n, false, 0, []⟩).star Y)) :=
  (newref_any n fp w fun b hb => h.rz.lt b hb).mono fun _ w' ⟨h1, h2, h3⟩ => ⟨_, h1, (h.new h3 (X := refT w.heap.size fp ⟨mostOf n, false, 0, []⟩) (T := Grow (fun _ => False) w w') h2 fun _ hb => hb.elim False.elim fun h => h.1).swap⟩
theorem Lab.refout {P : Program} {f : FuncId} {args : Array Value} {y : Nat × Option FS × DS} (hL : Lab w0 w ((rfuseT fp z).star ((refT r fp d).star Y))) (h : ∀ S, RzAt w fp z → RefAt w r fp d S → Calls P f args w (RefOut r fp S w y)) :
    Calls P f args w fun e w' => e = .returned (.int .i64 (y.1 : Nat)) ∧ Lab w0 w' ((rfuseT fp y.2.1).star ((refT r fp y.2.2).star Y)) := by
  refine (Lab.call (Q := fun X' e => e = .returned (.int .i64 (y.1 : Nat)) ∧ X' = (rfuseT fp y.2.1).star (refT r fp y.2.2)) hL.assoc' ?_).mono ?_
  · rintro T ⟨A, S, ⟨h1, h2⟩, h3, h4, h5⟩
    have hS : RefAt w r fp d S := h3
    refine (h S h1 hS).mono fun e w' ⟨k1, k2, k3, k4⟩ => ⟨_, ⟨k1, rfl⟩, k4.mono (fun b _ hb => (h5 b).2 (hb.elim .inr fun hb => .inl ((h2 b).2 hb))), fun b => fp = some b ∨ Grow S w w' b, fun b hb => ?_, fun b => fp = some b, Grow S w w', ⟨k2, fun _ => Iff.rfl⟩, k3, fun b hb hg => ?_, fun _ => Iff.rfl⟩
    · rcases hb with hb | hb | hb
      · exact .inl ((h5 b).2 (.inl ((h2 b).2 hb)))
      · exact .inl ((h5 b).2 (.inr hb))
      · exact .inr hb
    · obtain ⟨_, _, _, _, _, h6⟩ := k3
      exact h6 b hb hg
  · rintro e w' ⟨X', ⟨h1, rfl⟩, h2⟩
    exact ⟨h1, h2.assoc⟩
theorem Lab.refturn {P : Program} {f : FuncId} {args : Array Value} {d' : DS} {e0 : Ending} (hL : Lab w0 w ((refT r fp d).star Y)) (h : ∀ S, RefAt w r fp d S → Calls P f args w fun e w' => e = e0 ∧ RefAt w' r fp d' S ∧ Chg S w w') :
    Calls P f args w fun e w' => e = e0 ∧ Lab w0 w' ((refT r fp d').star Y) := by
  refine (Lab.call (Q := fun X' e => e = e0 ∧ X' = refT r fp d') hL ?_).mono ?_
  · intro T hT
    exact (h T hT).mono fun e w' ⟨k1, k2, k3⟩ => ⟨_, ⟨k1, rfl⟩, k3, T, fun b hb => .inl hb, k2⟩
  · rintro e w' ⟨X', ⟨h1, rfl⟩, h2⟩
    exact ⟨h1, h2⟩
/-- An operation that also hands out a slice of its own. -/
theorem Lab.refgive {P : Program} {f : FuncId} {args : Array Value} {z' : Option FS} {d' : DS} {ty : TypeId} {cs : List Value} {E : Value → Ending} (hL : Lab w0 w ((rfuseT fp z).star ((refT r fp d).star Y)))
    (h : ∀ S, RzAt w fp z → RefAt w r fp d S → Calls P f args w fun e w' => ∃ u, e = E u ∧ Own w' w.heap.size ty u cs ∧ RzAt w' fp z' ∧ RefAt w' r fp d' S ∧ Chg (fun b => S b ∨ fp = some b) w w') :
    Calls P f args w fun e w' => ∃ u, e = E u ∧ Lab w0 w' ((ownT ty u cs).star ((rfuseT fp z').star ((refT r fp d').star Y))) := by
  refine (Lab.call (Q := fun X' e => ∃ u, e = E u ∧ X' = (ownT ty u cs).star ((rfuseT fp z').star (refT r fp d'))) hL.assoc' ?_).mono ?_
  · rintro T ⟨A, S, ⟨h1, h2⟩, h3, h4, h5⟩
    have hS : RefAt w r fp d S := h3
    have lt := hS.lt
    have ltf := h1.lt
    refine (h S h1 hS).mono fun e w' ⟨u, k1, k0, k2, k3, k4⟩ => ⟨_, ⟨u, k1, rfl⟩, k4.mono (fun b _ hb => (h5 b).2 (hb.elim .inr fun hb => .inl ((h2 b).2 hb))), fun b => u.ownBlock = some b ∨ (fp = some b ∨ S b), fun b hb => ?_, fun b => u.ownBlock = some b, fun b => fp = some b ∨ S b, ⟨k0.mono (Nat.zero_le _), fun _ => Iff.rfl⟩,
      ⟨fun b => fp = some b, S, ⟨k2, fun _ => Iff.rfl⟩, k3, fun b hb hg => ?_, fun _ => Iff.rfl⟩, fun b hb hg => ?_, fun _ => Iff.rfl⟩
    · rcases hb with hb | hb | hb
      · exact .inr ⟨k0.block b hb, k0.lt hb⟩
      · exact .inl ((h5 b).2 (.inl ((h2 b).2 hb)))
      · exact .inl ((h5 b).2 (.inr hb))
    · obtain ⟨_, _, _, _, _, h6⟩ := k3
      exact h6 b hb hg
    · have := k0.block b hb
      rcases hg with hg | hg
      · have := ltf b hg; omega
      · have := lt b hg; omega
  · rintro e w' ⟨X', ⟨u, h1, rfl⟩, h2⟩
    exact ⟨u, h1, h2.assoc.ent (.star (.refl _) .assoc)⟩
theorem Lab.rwrite (hL : Lab w0 w ((rfuseT fp z).star ((refT r fp d).star Y))) (p : Path) (v : Value) (b : List UInt8) (hzo : zops z < 1099511627776) (hp : p.length ≤ maxLen) (hv : Bytes w v b) (hb : b.length ≤ 140737488351232) (ht : tot d.fs ≤ 1099511627776) (hn : d.fs.length ≤ 4096) :
    Calls Try.prog 114 #[.pointer (some ⟨r, 0, none⟩), .string (bstr p), v] w fun e w' => e = .returned (.int .i64 ((writes z d p b).1 : Nat)) ∧ Lab w0 w' ((rfuseT fp (writes z d p b).2.1).star ((refT r fp (writes z d p b).2.2).star Y)) :=
  hL.refout fun S hz hS => rwrite_any r fp z d S p v b w hS hz hzo hp hn hv hb ht
theorem Lab.rsync (hL : Lab w0 w ((rfuseT fp z).star ((refT r fp d).star Y))) (p : Path) (hzo : zops z < 1099511627776) (hp : p.length ≤ maxLen) (hn : d.fs.length ≤ 4096) :
    Calls Try.prog 113 #[.pointer (some ⟨r, 0, none⟩), .string (bstr p)] w fun e w' => e = .returned (.int .i64 ((syncs z d p).1 : Nat)) ∧ Lab w0 w' ((rfuseT fp (syncs z d p).2.1).star ((refT r fp (syncs z d p).2.2).star Y)) :=
  hL.refout fun S hz hS => rsync_any r fp z d S p w hS hz hzo hp hn
theorem Lab.rdelete (hL : Lab w0 w ((rfuseT fp z).star ((refT r fp d).star Y))) (p : Path) (hzo : zops z < 1099511627776) (hp : p.length ≤ maxLen) (hn : d.fs.length ≤ 4096) :
    Calls Try.prog 110 #[.pointer (some ⟨r, 0, none⟩), .string (bstr p)] w fun e w' => e = .returned (.int .i64 ((deletes z d p).1 : Nat)) ∧ Lab w0 w' ((rfuseT fp (deletes z d p).2.1).star ((refT r fp (deletes z d p).2.2).star Y)) :=
  hL.refout fun S hz hS => rdelete_any r fp z d S p w hS hz hzo hp hn
theorem Lab.rrename (hL : Lab w0 w ((rfuseT fp z).star ((refT r fp d).star Y))) (p q : Path) (hzo : zops z < 1099511627776) (hp : p.length ≤ maxLen) (hq : q.length ≤ maxLen) (hn : d.fs.length ≤ 4096) :
    Calls Try.prog 112 #[.pointer (some ⟨r, 0, none⟩), .string (bstr p), .string (bstr q)] w fun e w' => e = .returned (.int .i64 ((renames z d p q).1 : Nat)) ∧ Lab w0 w' ((rfuseT fp (renames z d p q).2.1).star ((refT r fp (renames z d p q).2.2).star Y)) :=
  hL.refout fun S hz hS => rrename_any r fp z d S p q w hS hz hzo hp hq hn
theorem Lab.rread (hL : Lab w0 w ((rfuseT fp z).star ((refT r fp d).star Y))) (p : Path) (hzo : zops z < 1099511627776) (hp : p.length ≤ maxLen) (ht : tot d.fs ≤ 5000000) (hn : d.fs.length ≤ 4096) :
    Calls Try.prog 111 #[.pointer (some ⟨r, 0, none⟩), .string (bstr p)] w fun e w' => ∃ u, e = .returned (.tuple #[u, .int .i64 (opens z d p [] : Nat)]) ∧ Lab w0 w' ((ownT 5 u (bvs (readb z d p))).star ((rfuseT fp (begins z d [p]).2.1).star ((refT r fp (begins z d [p]).2.2).star Y))) :=
  hL.refgive fun S hz hS => rread_any r fp z d S p w hS hz hzo hp hn ht
end
end Go.Proofs.Ythkbbcdnmdjhdaa
/-! XRfH: Both: what is done on both disks is answered alike. -/
namespace Go.Proofs.Ythkbbcdnmdjhdaa
open Go.RowKit Dk
set_option maxRecDepth 100000
set_option maxHeartbeats 4000000
attribute [local go_sem] min_int2 max_int2 bstr_toList bstr_size

/-- What a deed (0 to 6) makes of the fuse and the disk. -/
def stepB (z : Option FS) (d : DS) (x : Deed) : Option FS × DS :=
  if x.act = 0 then (begins z d [x.a]).2 else if x.act = 1 then (writes z d x.a x.data).2 else if x.act = 2 then (writes z d x.a x.data).2 else if x.act = 3 then (syncs z d x.a).2
  else if x.act = 4 then (renames z d x.a x.b).2 else if x.act = 5 then (deletes z d x.a).2 else (begins z d []).2
theorem Lab.drop5 {w0 w : World} {X Y Z V U R : Thing} (h : Lab w0 w (X.star (Y.star (Z.star (V.star (U.star R)))))) : Lab w0 w (X.star (Y.star (Z.star (V.star R)))) := h.ent (.star (.refl _) (.star (.refl _) (.star (.refl _) (.star (.refl _) .right))))
end Go.Proofs.Ythkbbcdnmdjhdaa
/-! XRfI: The reference's disk: Crash. -/
namespace Go.Proofs.Ythkbbcdnmdjhdaa
open Go.RowKit Dk
set_option maxRecDepth 100000
set_option maxHeartbeats 4000000
attribute [local go_sem] min_int2 max_int2 bstr_toList bstr_size

/-- The first i are cut. -/
def cutl (k : Nat) (i : Nat) (l : L Fil) : L Fil := mapv (cutf k) (l.take i) ++ l.drop i
theorem cutl_zero (k : Nat) (l : L Fil) : cutl k 0 l = l := by unfold cutl mapv; simp
theorem cutl_all (k : Nat) (l : L Fil) : cutl k l.length l = mapv (cutf k) l := by unfold cutl; simp
theorem cutl_step (k : Nat) (l : L Fil) {i : Nat} (h : i < l.length) : cutl k (i + 1) l = (cutl k i l).set i (l[i].1, cutf k l[i].2) := by
  unfold cutl
  have h1 : (mapv (cutf k) (l.take i)).length = i := by rw [mapv_length, List.length_take]; omega
  have h2 : mapv (cutf k) (l.take (i + 1)) = mapv (cutf k) (l.take i) ++ [(l[i].1, cutf k l[i].2)] := by
    unfold mapv
    rw [List.take_add_one, List.getElem?_eq_getElem h, List.map_append]; rfl
  rw [List.set_append_right _ _ (by omega), h1, Nat.sub_self, ← List.getElem_cons_drop (h := h), List.set_cons_zero, h2, List.append_assoc]
  rfl
theorem cutl_at (k : Nat) (l : L Fil) {i : Nat} (h : i < l.length) : (cutl k i l)[i]? = some l[i] := by
  unfold cutl
  have h1 : (mapv (cutf k) (l.take i)).length = i := by rw [mapv_length, List.length_take]; omega
  rw [List.getElem?_append_right (by omega), h1, Nat.sub_self, List.getElem?_drop]
  simp [List.getElem?_eq_getElem h]
theorem cutl_length (k : Nat) (l : L Fil) {i : Nat} (h : i ≤ l.length) : (cutl k i l).length = l.length := by
  unfold cutl
  rw [List.length_append, mapv_length, List.length_take, List.length_drop]; omega
theorem rcells_get3 {α : Type} {l : List α} {i : Nat} {e : α} (h : l[i]? = some e) : l.set i e = l := by
  obtain ⟨h1, h2⟩ := List.getElem?_eq_some_iff.1 h
  rw [← h2, List.set_getElem_self]
theorem rcells_get2 {es : L REnt} {i : Nat} {e : Path × REnt} (h : es[i]? = some e) : es.set i e = es := by
  obtain ⟨h1, h2⟩ := List.getElem?_eq_some_iff.1 h
  rw [← h2, List.set_getElem_self]
/-- One entry's slice and mark written. -/
theorem RRaw.reset {w w' : World} {r : Nat} {rf : Option Nat} {es : L REnt} {d : DS} {g cap : Nat} (h : RRaw w r rf (.slice (some ⟨g, 0, none⟩) es.length cap) es d) {i : Nat} (hi : i < es.length) {x' : REnt} (hc : Chg (fun b => b = g) w w')
    (hl : OwnK w' 0 183 3 (.slice (some ⟨g, 0, none⟩) es.length cap) es.length (rcells (es.set i (es[i].1, x')))) (hb' : Own w' 0 5 x'.v (bvs x'.f.b)) : RRaw w' r rf (.slice (some ⟨g, 0, none⟩) (es.set i (es[i].1, x')).length cap) (es.set i (es[i].1, x')) { d with fs := rfils (es.set i (es[i].1, x')) } := by
  have hg := h.self.1
  have hgr : ¬ r = g := fun e => hg (by rw [e]; rfl)
  have hlen : (es.set i (es[i].1, x')).length = es.length := List.length_set
  have hup : Up (es.set i (es[i].1, x')) := by
    have h1 : (es.set i (es[i].1, x')).map (·.1) = es.map (·.1) := by
      rw [List.map_set]
      exact rcells_get3 (by rw [List.getElem?_map, List.getElem?_eq_getElem hi]; rfl)
    have h2 : (es.map (·.1)).Pairwise fun a b => bytesBefore a b = true := List.pairwise_map.2 h.up
    rw [← h1] at h2
    exact List.pairwise_map.1 h2
  have hmem : ∀ e ∈ es.set i (es[i].1, x'), e = (es[i].1, x') ∨ e ∈ es := fun e he => (List.mem_or_eq_of_mem_set he).symm
  refine ⟨by rw [hlen]; exact h.row.chg hc hgr, by rw [hlen]; exact hl, hup, fun e he => ?_, rfl, h.nb, h.nm, fun e he => ?_⟩
  · rcases hmem e he with rfl | he
    · exact hb'
    · refine (h.file e he).chg hc fun b hb e1 => ?_
      subst e1
      obtain ⟨cur, hr⟩ := h.lst.row (b := b) rfl
      exact (h.file e he).ne hr (fun e => rty4 e.symm) hb
  · rcases hmem e he with rfl | he
    · exact h.pl es[i] (List.getElem_mem hi)
    · exact h.pl e he
theorem rcells_cut : ∀ (es : L REnt) (i : Nat) (h : i < es.length) (v : Value) (f : Fil) (s : Bool), f.sure = s → ((rcells es).set (i * 3 + 1) v).set (i * 3 + 2) (.bool s) = rcells (es.set i (es[i].1, ⟨v, f⟩))
  | [], _, h, _, _, _, _ => absurd h (Nat.not_lt_zero _)
  | e :: es, 0, _, v, f, s, hs => by subst hs; rfl
  | e :: es, i + 1, h, v, f, s, hs => by
    have := rcells_cut es i (by simpa using h) v f s hs
    rw [List.set_cons_succ, rcells_cons, rcells_cons, List.getElem_cons_succ, ← this, show (i + 1) * 3 + 1 = (i * 3 + 1) + 1 + 1 + 1 by omega, show (i + 1) * 3 + 2 = (i * 3 + 2) + 1 + 1 + 1 by omega]
    rfl
end Go.Proofs.Ythkbbcdnmdjhdaa
