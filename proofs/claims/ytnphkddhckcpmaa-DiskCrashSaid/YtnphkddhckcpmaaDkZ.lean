/-
  Disks and fuses as things of their own (Sep).
-/
import Derived.Test.YtnphkddhckcpmaaDkY
import Derived.Test.YtnphkddhckcpmaaSep
namespace Go.Proofs.Ytnphkddhckcpmaa
open Go.RowKit Dk
set_option maxRecDepth 100000
set_option maxHeartbeats 4000000

def fuseT (fp : Option Nat) (z : Option FS) : Thing :=
  ⟨fun w T => FzAt w fp z ∧ ∀ b, T b ↔ fp = some b, fun h b hb => h.1.lt b ((h.2 b).1 hb), fun h hc hn => ⟨h.1.chg hc fun b hb => hn b ((h.2 b).2 hb), h.2⟩⟩
def simT (s : Nat) (fp : Option Nat) (d : DS) : Thing := ⟨fun w T => SimAt w s fp d T, fun h => h.lt', fun h hc hn => h.chg hc hn⟩
section
variable {w0 w w' : World} {Y Z : Thing} {s : Nat} {fp : Option Nat} {z : Option FS} {d : DS}
theorem Lab.fz (h : Lab w0 w ((fuseT fp z).star Z)) : FzAt w fp z := by obtain ⟨T, h⟩ := h.left.get; exact h.1
theorem Lab.simAt (h : Lab w0 w (simT s fp d)) : ∃ S, SimAt w s fp d S := h.get
theorem Lab.raw (h : Lab w0 w (simT s fp d)) : ∃ m es, Raw w s fp m es d := by obtain ⟨S, m, es, h, _⟩ := h.get; exact ⟨m, es, h⟩
theorem Lab.newfuse (h : Lab w0 w Y) : Calls Try.prog 14 #[] w fun e w' => ∃ f, e = .returned (.pointer (some ⟨f, 0, none⟩)) ∧ Lab w0 w' ((fuseT (some f) (some ⟨0, 0, false⟩)).star Y) :=
  (newfuse_any w).mono fun _ w' ⟨h1, h2, h3, h4⟩ => ⟨_, h1, h.new h3 (X := fuseT (some w.heap.size) (some ⟨0, 0, false⟩)) (T := fun b => some w.heap.size = some b) ⟨h2, fun _ => Iff.rfl⟩ fun _ hb => by cases hb; exact Nat.le_refl _⟩
theorem Lab.newdisk (n : Int) (h : Lab w0 w ((fuseT fp z).star Y)) : Calls Try.prog 15 #[.int .i64 n, fptr fp] w fun e w' => ∃ s, e = .returned (.pointer (some ⟨s, 0, none⟩)) ∧ Lab w0 w' ((fuseT fp z).star ((simT s fp ⟨mostOf n, false, 0, []⟩).star Y)) :=
  (new_any n fp w fun b hb => h.fz.lt b hb).mono fun _ w' ⟨h1, h2, h3⟩ => ⟨_, h1, (h.new h3 (X := simT (w.heap.size + 1) fp ⟨mostOf n, false, 0, []⟩) (T := Grow (fun _ => False) w w') h2 fun _ hb => hb.elim False.elim fun h => h.1).swap⟩
theorem Lab.nofuse (h : Lab w0 w Y) : Lab w0 w ((fuseT none none).star Y) := h.new (Ext.refl w) (T := fun _ => False) ⟨trivial, fun b => ⟨False.elim, fun e => by cases e⟩⟩ fun _ h => h.elim
theorem Lab.simout {P : Program} {f : FuncId} {args : Array Value} {r : Nat × Option FS × DS} (hL : Lab w0 w ((fuseT fp z).star ((simT s fp d).star Y))) (h : ∀ S, FzAt w fp z → SimAt w s fp d S → Calls P f args w (SimOut s fp S w r)) :
    Calls P f args w fun e w' => e = .returned (.int .i64 (r.1 : Nat)) ∧ Lab w0 w' ((fuseT fp r.2.1).star ((simT s fp r.2.2).star Y)) := by
  refine (Lab.call (Q := fun X' e => e = .returned (.int .i64 (r.1 : Nat)) ∧ X' = (fuseT fp r.2.1).star (simT s fp r.2.2)) hL.assoc' ?_).mono ?_
  · rintro T ⟨A, S, ⟨h1, h2⟩, h3, h4, h5⟩
    have hS : SimAt w s fp d S := h3
    refine (h S h1 hS).mono fun e w' ⟨k1, k2, k3, k4⟩ => ⟨_, ⟨k1, rfl⟩, k4.mono (fun b _ hb => (h5 b).2 (hb.elim .inr fun hb => .inl ((h2 b).2 hb))), fun b => fp = some b ∨ Grow S w w' b, fun b hb => ?_, fun b => fp = some b, Grow S w w', ⟨k2, fun _ => Iff.rfl⟩, k3, fun b hb hg => ?_, fun _ => Iff.rfl⟩
    · rcases hb with hb | hb | hb
      · exact .inl ((h5 b).2 (.inl ((h2 b).2 hb)))
      · exact .inl ((h5 b).2 (.inr hb))
      · exact .inr hb
    · obtain ⟨_, _, _, _, _, h6⟩ := k3
      exact h6 b hb hg
  · rintro e w' ⟨X', ⟨h1, rfl⟩, h2⟩
    exact ⟨h1, h2.assoc⟩
theorem Lab.simturn {P : Program} {f : FuncId} {args : Array Value} {d' : DS} {e0 : Ending} (hL : Lab w0 w ((simT s fp d).star Y)) (h : ∀ S, SimAt w s fp d S → Calls P f args w fun e w' => e = e0 ∧ SimAt w' s fp d' S ∧ Chg S w w') :
    Calls P f args w fun e w' => e = e0 ∧ Lab w0 w' ((simT s fp d').star Y) := by
  refine (Lab.call (Q := fun X' e => e = e0 ∧ X' = simT s fp d') hL ?_).mono ?_
  · intro T hT
    exact (h T hT).mono fun e w' ⟨k1, k2, k3⟩ => ⟨_, ⟨k1, rfl⟩, k3, T, fun b hb => .inl hb, k2⟩
  · rintro e w' ⟨X', ⟨h1, rfl⟩, h2⟩
    exact ⟨h1, h2⟩
/-- An operation that also hands out a slice of its own. -/
theorem Lab.simgive {P : Program} {f : FuncId} {args : Array Value} {z' : Option FS} {d' : DS} {ty : TypeId} {cs : List Value} {E : Value → Ending} (hL : Lab w0 w ((fuseT fp z).star ((simT s fp d).star Y)))
    (h : ∀ S, FzAt w fp z → SimAt w s fp d S → Calls P f args w fun e w' => ∃ u, e = E u ∧ Own w' w.heap.size ty u cs ∧ FzAt w' fp z' ∧ SimAt w' s fp d' S ∧ Chg (fun b => S b ∨ fp = some b) w w') :
    Calls P f args w fun e w' => ∃ u, e = E u ∧ Lab w0 w' ((ownT ty u cs).star ((fuseT fp z').star ((simT s fp d').star Y))) := by
  refine (Lab.call (Q := fun X' e => ∃ u, e = E u ∧ X' = (ownT ty u cs).star ((fuseT fp z').star (simT s fp d'))) hL.assoc' ?_).mono ?_
  · rintro T ⟨A, S, ⟨h1, h2⟩, h3, h4, h5⟩
    have hS : SimAt w s fp d S := h3
    have lt := hS.lt'
    have ltf := h1.lt
    refine (h S h1 hS).mono fun e w' ⟨u, k1, k0, k2, k3, k4⟩ => ⟨_, ⟨u, k1, rfl⟩, k4.mono (fun b _ hb => (h5 b).2 (hb.elim .inr fun hb => .inl ((h2 b).2 hb))), fun b => u.ownBlock = some b ∨ (fp = some b ∨ S b), fun b hb => ?_, fun b => u.ownBlock = some b, fun b => fp = some b ∨ S b, ⟨k0.mono (Nat.zero_le _), fun _ => Iff.rfl⟩,
      ⟨fun b => fp = some b, S, ⟨k2, fun _ => Iff.rfl⟩, k3, fun b hb hg => ?_, fun _ => Iff.rfl⟩, fun b hb hg => ?_, fun _ => Iff.rfl⟩
    · rcases hb with hb | hb | hb
      · exact .inr ⟨k0.block b hb, k0.lt hb⟩
      · exact .inl ((h5 b).2 (.inl ((h2 b).2 hb)))
      · exact .inl ((h5 b).2 (.inr hb))
    · obtain ⟨_, _, _, _, _, h6⟩ := k3
      exact h6 b hb hg
    · have := k0.block b hb
      rcases hg with hg | hg
      · have := ltf b hg; omega
      · have := lt b hg; omega
  · rintro e w' ⟨X', ⟨u, h1, rfl⟩, h2⟩
    exact ⟨u, h1, h2.assoc.ent (.star (.refl _) .assoc)⟩
theorem Lab.write (hL : Lab w0 w ((fuseT fp z).star ((simT s fp d).star Y))) (p : Path) (v : Value) (b : List UInt8) (hzo : zops z < 1099511627776) (hp : p.length ≤ maxLen) (hv : Bytes w v b) (hb : b.length ≤ 140737488351232) (ht : tot d.fs ≤ 1099511627776) (hn : d.fs.length ≤ 4096) :
    Calls Try.prog 17 #[.pointer (some ⟨s, 0, none⟩), .string (bstr p), v] w fun e w' => e = .returned (.int .i64 ((writes z d p b).1 : Nat)) ∧ Lab w0 w' ((fuseT fp (writes z d p b).2.1).star ((simT s fp (writes z d p b).2.2).star Y)) :=
  hL.simout fun S hz hS => write_any s fp z d S p v b w hS hz hzo hp hv hb ht hn
theorem Lab.sync (hL : Lab w0 w ((fuseT fp z).star ((simT s fp d).star Y))) (p : Path) (hzo : zops z < 1099511627776) (hp : p.length ≤ maxLen) :
    Calls Try.prog 31 #[.pointer (some ⟨s, 0, none⟩), .string (bstr p)] w fun e w' => e = .returned (.int .i64 ((syncs z d p).1 : Nat)) ∧ Lab w0 w' ((fuseT fp (syncs z d p).2.1).star ((simT s fp (syncs z d p).2.2).star Y)) :=
  hL.simout fun S hz hS => sync_any s fp z d S p w hS hz hzo hp
theorem Lab.delete (hL : Lab w0 w ((fuseT fp z).star ((simT s fp d).star Y))) (p : Path) (hzo : zops z < 1099511627776) (hp : p.length ≤ maxLen) :
    Calls Try.prog 20 #[.pointer (some ⟨s, 0, none⟩), .string (bstr p)] w fun e w' => e = .returned (.int .i64 ((deletes z d p).1 : Nat)) ∧ Lab w0 w' ((fuseT fp (deletes z d p).2.1).star ((simT s fp (deletes z d p).2.2).star Y)) :=
  hL.simout fun S hz hS => delete_any s fp z d S p w hS hz hzo hp
theorem Lab.rename (hL : Lab w0 w ((fuseT fp z).star ((simT s fp d).star Y))) (p q : Path) (hzo : zops z < 1099511627776) (hp : p.length ≤ maxLen) (hq : q.length ≤ maxLen) (hn : d.fs.length ≤ 4096) :
    Calls Try.prog 32 #[.pointer (some ⟨s, 0, none⟩), .string (bstr p), .string (bstr q)] w fun e w' => e = .returned (.int .i64 ((renames z d p q).1 : Nat)) ∧ Lab w0 w' ((fuseT fp (renames z d p q).2.1).star ((simT s fp (renames z d p q).2.2).star Y)) :=
  hL.simout fun S hz hS => rename_any s fp z d S p q w hS hz hzo hp hq hn
theorem Lab.read (hL : Lab w0 w ((fuseT fp z).star ((simT s fp d).star Y))) (p : Path) (hzo : zops z < 1099511627776) (hp : p.length ≤ maxLen) (ht : tot d.fs ≤ 1099511627776) :
    Calls Try.prog 27 #[.pointer (some ⟨s, 0, none⟩), .string (bstr p)] w fun e w' => ∃ u, e = .returned (.tuple #[u, .int .i64 (opens z d p [] : Nat)]) ∧ Lab w0 w' ((ownT 5 u (bvs (readb z d p))).star ((fuseT fp (begins z d [p]).2.1).star ((simT s fp (begins z d [p]).2.2).star Y))) :=
  hL.simgive fun S hz hS => read_any s fp z d S p w hS hz hzo hp ht
theorem Lab.list (hL : Lab w0 w ((fuseT fp z).star ((simT s fp d).star Y))) (p : Path) (hzo : zops z < 1099511627776) (hn : d.fs.length ≤ 4096) :
    Calls Try.prog 26 #[.pointer (some ⟨s, 0, none⟩), .string (bstr p)] w fun e w' => ∃ u, e = .returned (.tuple #[u, .int .i64 ((begins z d []).1 : Nat)]) ∧ Lab w0 w' ((ownT 9 u (pvs (lists z d p))).star ((fuseT fp (begins z d []).2.1).star ((simT s fp (begins z d []).2.2).star Y))) :=
  hL.simgive fun S hz hS => list_any s fp z d S p w hS hz hzo hn
theorem Lab.crash (hL : Lab w0 w ((simT s fp d).star Y)) (keep : Int) (hk : -9223372036854775808 ≤ keep ∧ keep ≤ 9223372036854775807) (ht : tot d.fs ≤ 1099511627776) :
    Calls Try.prog 33 #[.pointer (some ⟨s, 0, none⟩), .int .i64 keep] w fun e w' => e = .returned (.tuple #[]) ∧ Lab w0 w' ((simT s fp (d.crash keep)).star Y) :=
  hL.simturn fun S hS => crash_any s fp d S keep hk w hS ht
theorem Lab.wipe (hL : Lab w0 w ((simT s fp d).star Y)) :
    Calls Try.prog 21 #[.pointer (some ⟨s, 0, none⟩)] w fun e w' => e = .returned (.tuple #[]) ∧ Lab w0 w' ((simT s fp { d with fs := [] }).star Y) :=
  hL.simturn fun S hS => wipe_any s fp d S w hS
theorem Lab.offline (hL : Lab w0 w ((simT s fp d).star Y)) (b : Bool) :
    Calls Try.prog 30 #[.pointer (some ⟨s, 0, none⟩), .bool b] w fun e w' => e = .returned (.tuple #[]) ∧ Lab w0 w' ((simT s fp { d with off := b }).star Y) :=
  hL.simturn fun S hS => offline_any s fp d S b w hS
theorem Lab.fail (hL : Lab w0 w ((simT s fp d).star Y)) (n : Int) (hn : n ≤ 9223372036854775807) :
    Calls Try.prog 28 #[.pointer (some ⟨s, 0, none⟩), .int .i64 n] w fun e w' => e = .returned (.tuple #[]) ∧ Lab w0 w' ((simT s fp { d with bad := n.toNat }).star Y) :=
  hL.simturn fun S hS => fail_any s fp d S n hn w hS
/-! what only reads: the disk, and all that is there (Z) -/
theorem Lab.used (hL : Lab w0 w Z) (hS : Lab w0 w (simT s fp d)) (ht : tot d.fs ≤ 1099511627776) :
    Calls Try.prog 24 #[.pointer (some ⟨s, 0, none⟩)] w fun e w' => e = .returned (.int .i64 (tot d.fs : Nat)) ∧ Lab w0 w' Z := by
  obtain ⟨m, es, h⟩ := hS.raw
  exact (used_any s m fp es d w h ht).mono fun e w' ⟨h1, h2⟩ => ⟨h1, hL.ext h2⟩
theorem Lab.room (hL : Lab w0 w Z) (hS : Lab w0 w (simT s fp d)) (ht : tot d.fs ≤ 1099511627776) :
    Calls Try.prog 25 #[.pointer (some ⟨s, 0, none⟩)] w fun e w' => e = .returned (.int .i64 ((d.most : Int) - tot d.fs)) ∧ Lab w0 w' Z := by
  obtain ⟨S, h⟩ := hS.simAt
  exact (sroom_any s fp d S w h ht).mono fun e w' ⟨h1, h2⟩ => ⟨h1, hL.ext h2⟩
theorem Lab.files (hL : Lab w0 w Z) (hS : Lab w0 w (simT s fp d)) (hn : d.fs.length ≤ 4096) :
    Calls Try.prog 23 #[.pointer (some ⟨s, 0, none⟩)] w fun e w' => ∃ v, e = .returned v ∧ Lab w0 w' ((ownT 9 v (pvs (paths d.fs))).star Z) := by
  obtain ⟨m, es, h⟩ := hS.raw
  exact (files_any sort_ok s m fp es d w h hn).mono fun e w' ⟨v, h1, h2, h3⟩ => ⟨v, h1, hL.new h3 (X := ownT 9 v (pvs (paths d.fs))) (T := fun b => v.ownBlock = some b) ⟨h2.mono (Nat.zero_le _), fun _ => Iff.rfl⟩ fun b hb => h2.block b hb⟩
theorem Lab.look (hL : Lab w0 w Z) (hS : Lab w0 w (simT s fp d)) (p : Path) (hp : p.length ≤ maxLen) (ht : tot d.fs ≤ 1099511627776) :
    Calls Try.prog 29 #[.pointer (some ⟨s, 0, none⟩), .string (bstr p)] w fun e w' => ∃ u, e = .returned (.tuple #[u, .bool (match Dk.get p d.fs with | some f => f.sure | none => false), .bool (Dk.get p d.fs).isSome]) ∧ Lab w0 w' ((ownT 5 u (bvs (match Dk.get p d.fs with | some f => f.b | none => []))).star Z) := by
  obtain ⟨S, h⟩ := hS.simAt
  exact (look_any s fp d S p w h hp ht).mono fun e w' ⟨v, h1, h2, h3⟩ => ⟨v, h1, hL.new h3 (X := ownT 5 v _) (T := fun b => v.ownBlock = some b) ⟨h2.mono (Nat.zero_le _), fun _ => Iff.rfl⟩ fun b hb => h2.block b hb⟩
theorem Lab.fset {f : Nat} {zz : FS} (hL : Lab w0 w ((fuseT (some f) (some zz)).star Y)) (n : Int) (hn : -9223372036854775808 ≤ n ∧ n ≤ 9223372036854775807) :
    Calls Try.prog 16 #[.pointer (some ⟨f, 0, none⟩), .int .i64 n] w fun e w' => e = .returned (.tuple #[]) ∧ Lab w0 w' ((fuseT (some f) (some ⟨n, 0, false⟩)).star Y) := by
  refine (Lab.call (Q := fun X' e => e = .returned (.tuple #[]) ∧ X' = fuseT (some f) (some ⟨n, 0, false⟩)) hL ?_).mono ?_
  · intro T hT
    exact (fset_any f zz n hn w hT.1).mono fun e w' ⟨k1, k2, k3, k4⟩ => ⟨_, ⟨k1, rfl⟩, k3.mono (fun b _ hb => (hT.2 b).2 hb), T, fun b hb => .inl hb, k2, hT.2⟩
  · rintro e w' ⟨X', ⟨h1, rfl⟩, h2⟩
    exact ⟨h1, h2⟩
end
end Go.Proofs.Ytnphkddhckcpmaa
