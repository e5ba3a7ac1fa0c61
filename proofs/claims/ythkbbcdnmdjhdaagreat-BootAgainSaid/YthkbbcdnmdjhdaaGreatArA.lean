/-
  An array in memory; an operation on one of its disks; N, Disk, Quorum.
-/
import Derived.Test.YthkbbcdnmdjhdaaGreatArP
import Derived.Test.YthkbbcdnmdjhdaaGreatArW
import Derived.Deep.RegionHeld3
/-! XArA: An array in memory; an operation on one of its disks; N, Disk, Quorum. -/
namespace Go.Proofs.YthkbbcdnmdjhdaaGreat
open Go.RowKit Dk
set_option maxRecDepth 100000
set_option maxHeartbeats 4000000
attribute [local go_sem] min_int2 max_int2 bstr_toList

/-- A disk as an interface value. -/
def dval (s : Nat) : Value := .iface 42 (.pointer (some ⟨s, 0, none⟩))
/-- Where an array lies. -/
structure AA where
  ab : Nat
  K : Nat
  M : Nat
  B : Nat
  cb : Nat
  gs : Nat
  gc : Nat
  ss : List Nat
def AA.dv (a : AA) : Value := .slice (some ⟨a.gs, 0, none⟩) a.ss.length a.gc
def arrT (a : AA) : Thing := (rowT a.ab 131 #[.int .i64 a.K, .int .i64 a.M, .int .i64 a.B, .pointer (some ⟨a.cb, 0, none⟩), a.dv]).star (ownT 156 a.dv (a.ss.map dval))
structure AA.Ok (a : AA) (s : AS) : Prop where
  k1 : 1 ≤ a.K
  m1 : 1 ≤ a.M
  n : a.ss.length = a.K + a.M
  n255 : a.K + a.M ≤ 255
  len : s.ds.length = a.ss.length
theorem AA.Ok.of {a : AA} {s t : AS} (h : a.Ok s) (e : t.ds.length = s.ds.length) : a.Ok t := ⟨h.k1, h.m1, h.n, h.n255, e.trans h.len⟩
/-- An array with its fuse and its disks, and what else there is. -/
def memA (a : AA) (fp : Option Nat) (s : AS) (Y : Thing) : Thing := (arrT a).star ((fuseT fp s.z).star ((simsT fp a.ss s.ds).star Y))
section
variable {w0 w w' : World} {Y Z X : Thing} {fp : Option Nat} {a : AA} {s : AS} {i sa n : Nat}
theorem arrT.cells (h : Lab w0 w (arrT a)) : w.cell? ⟨a.ab, 0, none⟩ = some (.int .i64 a.K) ∧ w.cell? ⟨a.ab, 1, none⟩ = some (.int .i64 a.M) ∧ w.cell? ⟨a.ab, 2, none⟩ = some (.int .i64 a.B) ∧ w.cell? ⟨a.ab, 3, none⟩ = some (.pointer (some ⟨a.cb, 0, none⟩)) ∧ w.cell? ⟨a.ab, 4, none⟩ = some (.slice (some ⟨a.gs, 0, none⟩) a.ss.length a.gc) := by
  have hr := rowT.row h.left
  exact ⟨hr.cell rfl, hr.cell rfl, hr.cell rfl, hr.cell rfl, hr.cell rfl⟩
theorem arrT.disk (h : Lab w0 w (arrT a)) (hs : a.ss[i]? = some sa) : w.cell? ⟨a.gs, i, none⟩ = some (.iface 42 (.pointer (some ⟨sa, 0, none⟩))) := by
  have ho := ownT.own h.right
  obtain ⟨p, q, e, -, -, hc⟩ := ho.cells
  have hx : (a.ss.map dval)[i]? = some (dval sa) := by rw [List.getElem?_map, hs]; rfl
  obtain ⟨ad, e1, h1⟩ := hc i _ hx
  have e2 : a.dv = .slice (some ⟨a.gs, 0, none⟩) a.ss.length a.gc := rfl
  rw [e2] at e
  simp only [Value.slice.injEq] at e
  rw [← e.1] at e1
  cases e1
  rw [Addr.add_lit, Nat.zero_add] at h1
  exact h1
theorem AS.getD_some {s : AS} {i : Nat} {d : DS} (h : s.ds[i]? = some d) : s.ds.getD i dz = d := by rw [List.getD_eq_getElem?_getD, h]; rfl
theorem AA.Ok.sd (hk : a.Ok s) (hs : a.ss[i]? = some sa) : ∃ d, s.ds[i]? = some d ∧ s.ds.getD i dz = d ∧ i < s.ds.length := by
  have hi : i < s.ds.length := by rw [hk.len]; exact (List.getElem?_eq_some_iff.1 hs).1
  exact ⟨_, List.getElem?_eq_getElem hi, AS.getD_some (List.getElem?_eq_getElem hi), hi⟩
/-- An operation on one disk is one of the array's disks. -/
theorem Lab.aop {P : Program} {f : FuncId} {args : Array Value} {F : Option FS → DS → Nat × Option FS × DS} (hL : Lab w0 w (memA a fp s Y)) (hk : a.Ok s) (hs : a.ss[i]? = some sa)
    (h : ∀ (Y' : Thing), Lab w0 w ((fuseT fp s.z).star ((simT sa fp (s.ds.getD i dz)).star Y')) → Calls P f args w fun e w' => e = .returned (.int .i64 ((F s.z (s.ds.getD i dz)).1 : Nat)) ∧ Lab w0 w' ((fuseT fp (F s.z (s.ds.getD i dz)).2.1).star ((simT sa fp (F s.z (s.ds.getD i dz)).2.2).star Y'))) :
    Calls P f args w fun e w' => e = .returned (.int .i64 ((s.op i F).1 : Nat)) ∧ Lab w0 w' (memA a fp (s.op i F).2 Y) := by
  obtain ⟨d, h1, h2, h3⟩ := hk.sd hs
  have hL1 : Lab w0 w ((arrT a).star ((fuseT fp s.z).star ((simsT fp a.ss s.ds).star Y))) := hL
  refine (h _ (by rw [h2]; exact hL1.third'.out1 hs h1)).mono ?_
  rintro e w' ⟨k1, k2⟩
  exact ⟨k1, (k2.back1 hs h3).third⟩
theorem Lab.awrite (hL : Lab w0 w (memA a fp s Y)) (hk : a.Ok s) (hA : ASnd s n) (hn : n < 1099511627776) (hs : a.ss[i]? = some sa) (p : Path) (v : Value) (b : List UInt8) (hp : p.length ≤ maxLen) (hv : Bytes w v b) (hb : b.length ≤ 140737488351232) :
    Calls Tryz.prog 45 #[.pointer (some ⟨sa, 0, none⟩), .string (bstr p), v] w fun e w' => e = .returned (.int .i64 ((s.op i fun z d => writes z d p b).1 : Nat)) ∧ Lab w0 w' (memA a fp (s.op i fun z d => writes z d p b).2 Y) :=
  hL.aop hk hs fun _ h => h.write p v b (by have := hA.ops; omega) hp hv hb (Nat.le_trans (hA.getD i).bytes (by decide)) (hA.getD i).len
theorem Lab.async (hL : Lab w0 w (memA a fp s Y)) (hk : a.Ok s) (hA : ASnd s n) (hn : n < 1099511627776) (hs : a.ss[i]? = some sa) (p : Path) (hp : p.length ≤ maxLen) :
    Calls Tryz.prog 106 #[.pointer (some ⟨sa, 0, none⟩), .string (bstr p)] w fun e w' => e = .returned (.int .i64 ((s.op i fun z d => syncs z d p).1 : Nat)) ∧ Lab w0 w' (memA a fp (s.op i fun z d => syncs z d p).2 Y) :=
  hL.aop hk hs fun _ h => h.sync p (by have := hA.ops; omega) hp
theorem Lab.adelete (hL : Lab w0 w (memA a fp s Y)) (hk : a.Ok s) (hA : ASnd s n) (hn : n < 1099511627776) (hs : a.ss[i]? = some sa) (p : Path) (hp : p.length ≤ maxLen) :
    Calls Tryz.prog 108 #[.pointer (some ⟨sa, 0, none⟩), .string (bstr p)] w fun e w' => e = .returned (.int .i64 ((s.op i fun z d => deletes z d p).1 : Nat)) ∧ Lab w0 w' (memA a fp (s.op i fun z d => deletes z d p).2 Y) :=
  hL.aop hk hs fun _ h => h.delete p (by have := hA.ops; omega) hp
theorem Lab.arename (hL : Lab w0 w (memA a fp s Y)) (hk : a.Ok s) (hA : ASnd s n) (hn : n < 1099511627776) (hs : a.ss[i]? = some sa) (p q : Path) (hp : p.length ≤ maxLen) (hq : q.length ≤ maxLen) :
    Calls Tryz.prog 107 #[.pointer (some ⟨sa, 0, none⟩), .string (bstr p), .string (bstr q)] w fun e w' => e = .returned (.int .i64 ((s.op i fun z d => renames z d p q).1 : Nat)) ∧ Lab w0 w' (memA a fp (s.op i fun z d => renames z d p q).2 Y) :=
  hL.aop hk hs fun _ h => h.rename p q (by have := hA.ops; omega) hp hq (hA.getD i).len
theorem Lab.aread (hL : Lab w0 w (memA a fp s Y)) (hk : a.Ok s) (hA : ASnd s n) (hn : n < 1099511627776) (hs : a.ss[i]? = some sa) (p : Path) (hp : p.length ≤ maxLen) :
    Calls Tryz.prog 105 #[.pointer (some ⟨sa, 0, none⟩), .string (bstr p)] w fun e w' => ∃ u, e = .returned (.tuple #[u, .int .i64 ((s.read i p).1.1 : Nat)]) ∧ Lab w0 w' ((ownT 5 u (bvs (s.read i p).1.2)).star (memA a fp (s.read i p).2 Y)) := by
  obtain ⟨d, h1, h2, h3⟩ := hk.sd hs
  have hL1 : Lab w0 w ((arrT a).star ((fuseT fp s.z).star ((simsT fp a.ss s.ds).star Y))) := hL
  have hd := hA.getD i
  unfold AS.read
  rw [h2] at hd ⊢
  refine ((hL1.third'.out1 hs h1).read p (by have := hA.ops; omega) hp (Nat.le_trans hd.bytes (by decide))).mono ?_
  rintro e w' ⟨u, k1, k2⟩
  refine ⟨u, k1, ?_⟩
  have k3 := ((k2.ent (.star (.refl _) (.star (.refl _) ((Thing.Ent.assoc').trans (.star (simsT.put hs h3) (.refl _))))))).ent (.star (.refl _) (Thing.Ent.trans (.star (.refl _) .swap) .swap))
  unfold memA AS.op
  rw [h2]
  exact k3
end

/-- A thing ahead of an array's memory goes behind it, and back. -/
theorem memA_in {a : AA} {fp : Option Nat} {s : AS} {X Y : Thing} : (X.star (memA a fp s Y)).Ent (memA a fp s (X.star Y)) :=
  Thing.Ent.swap.trans (.star (.refl _) (Thing.Ent.swap.trans (.star (.refl _) .swap)))
theorem memA_out {a : AA} {fp : Option Nat} {s : AS} {X Y : Thing} : (memA a fp s (X.star Y)).Ent (X.star (memA a fp s Y)) :=
  (Thing.Ent.star (.refl _) ((Thing.Ent.star (.refl _) .swap).trans .swap)).trans .swap
/-! ### what only reads -/
theorem aN_any (a : AA) (w0 w : World) (h : Lab w0 w (arrT a)) : Calls Tryz.prog 41 #[.pointer (some ⟨a.ab, 0, none⟩)] w fun e w' => e = .returned (.int .i64 (a.ss.length : Nat)) ∧ w = w' := by
  obtain ⟨-, -, -, -, c4⟩ := arrT.cells h
  obtain ⟨ab, K, M, B, cb, gs, gc, ss⟩ := a
  simp only at c4 ⊢
  clear h
  go_enter Tryz.func41, Tryz.ntmps41
  go_wp2_with fail
  go_ret
  exact ⟨rfl, rfl⟩
theorem adisk_any (a : AA) (i sa : Nat) (hs : a.ss[i]? = some sa) (w0 w : World) (h : Lab w0 w (arrT a)) : Calls Tryz.prog 73 #[.pointer (some ⟨a.ab, 0, none⟩), .int .i64 i] w fun e w' => e = .returned (.tuple #[.iface 42 (.pointer (some ⟨sa, 0, none⟩)), .bool true]) ∧ w = w' := by
  obtain ⟨-, -, -, -, c4⟩ := arrT.cells h
  have c5 := arrT.disk h hs
  have HN : Hid (∀ W, w = W → Calls Tryz.prog 41 #[.pointer (some ⟨a.ab, 0, none⟩)] W fun e w' => e = .returned (.int .i64 (a.ss.length : Nat)) ∧ W = w') := Lib.hid fun W e => by subst e; exact aN_any a w0 w h
  have hi := (List.getElem?_eq_some_iff.1 hs).1
  obtain ⟨ab, K, M, B, cb, gs, gc, ss⟩ := a
  simp only at c4 c5 HN hi ⊢
  obtain ⟨m, hm⟩ : ∃ m, ss.length = m := ⟨_, rfl⟩
  rw [hm] at c4 HN hi
  have q1 : (i : Int) < (m : Int) := by omega
  have q2 : 0 ≤ (i : Int) := by omega
  clear h hs hm
  go_enter Tryz.func73, Tryz.ntmps73
  go_wp2_with fail
  refine (HN.out _ rfl).mono ?_; rintro e w' ⟨rfl, rfl⟩
  go_wp2_with fail
  go_ret2
  exact ⟨rfl, rfl⟩
theorem adisk_no (a : AA) (i : Int) (hi : ¬ (0 ≤ i ∧ i < a.ss.length)) (w0 w : World) (h : Lab w0 w (arrT a)) : Calls Tryz.prog 73 #[.pointer (some ⟨a.ab, 0, none⟩), .int .i64 i] w fun e w' => e = .returned (.tuple #[.nilIface, .bool false]) ∧ w = w' := by
  have HN : Hid (∀ W, w = W → Calls Tryz.prog 41 #[.pointer (some ⟨a.ab, 0, none⟩)] W fun e w' => e = .returned (.int .i64 (a.ss.length : Nat)) ∧ W = w') := Lib.hid fun W e => by subst e; exact aN_any a w0 w h
  obtain ⟨m, hm⟩ : ∃ m, a.ss.length = m := ⟨_, rfl⟩
  rw [hm] at HN hi
  clear h hm
  by_cases h0 : i < 0
  · go_enter Tryz.func73, Tryz.ntmps73
    go_wp2_with fail
    go_ret2
    exact ⟨rfl, rfl⟩
  · have q1 : (m : Int) ≤ i := by omega
    have q0 : 0 ≤ i := by omega
    clear hi h0
    go_enter Tryz.func73, Tryz.ntmps73
    go_wp2_with fail
    refine (HN.out _ rfl).mono ?_; rintro e w' ⟨rfl, rfl⟩
    go_wp2_with fail
    go_ret2
    exact ⟨rfl, rfl⟩
def quo (K M : Nat) : Nat := max K ((K + M) / 2 + 1)
theorem aquorum_any (a : AA) (s : AS) (hk : a.Ok s) (w0 w : World) (h : Lab w0 w (arrT a)) : Calls Tryz.prog 22 #[.pointer (some ⟨a.ab, 0, none⟩)] w fun e w' => e = .returned (.int .i64 (quo a.K a.M : Nat)) ∧ Ext w w' := by
  obtain ⟨c0, -, -, -, -⟩ := arrT.cells h
  have hn := hk.n
  have hn2 := hk.n255
  obtain ⟨ab, K, M, B, cb, gs, gc, ss⟩ := a
  simp only at c0 hn hn2 ⊢
  have HN : Hid (∀ W, Ext w W → Calls Tryz.prog 41 #[.pointer (some ⟨ab, 0, none⟩)] W fun e w' => e = .returned (.int .i64 ((K + M : Nat) : Int)) ∧ (fun w' : World => w'.cell? ⟨ab, 0, none⟩ = some (.int .i64 K)) w' ∧ Ext w w') := Lib.hid fun W x => (aN_any _ w0 W (h.ext x)).mono fun e w' ⟨h1, h2⟩ => by
    subst h2
    exact ⟨by rw [h1, ← hn], x.cell c0, x⟩
  obtain ⟨m, hm⟩ : ∃ m, K + M = m := ⟨_, rfl⟩
  have HM := Lib.hid hm
  rw [hm] at HN hn2
  have hx0 : Ext w w.drew := Ext.of_drawn w 1
  have S0 : (fun w' : World => w'.cell? ⟨ab, 0, none⟩ = some (.int .i64 K)) w.drew := c0
  have e2 : IntKind.i64.wrap ((m : Int) / 2) = (m : Int) / 2 := by rw [IntKind.wrap_i64]; omega
  have HE := Lib.hid (show ((quo K M : Nat) : Int) = max (K : Int) ((m : Int) / 2 + 1) by unfold quo; rw [HM.out]; omega)
  have e1 : IntKind.i64.wrap ((m : Int) / 2 + 1) = (m : Int) / 2 + 1 := by rw [IntKind.wrap_i64]; omega
  clear h hn hm hk
  go_enter Tryz.func22, Tryz.ntmps22
  go_wp2_with fail
  go_region_held3 (fun w' : World => w'.cell? ⟨ab, 0, none⟩ = some (.int .i64 K)) (assumption) (first | (go_at_call 41; refine (HN.out _ hx0).mono ?_; rintro e w4 ⟨rfl, hS4, hx4⟩))
  have HX := Lib.hid hx4
  clear S0 hS4 hx4 hx0
  go_wp2_with fail
  go_ret
  exact ⟨by rw [HE.out]; rfl, HX.out⟩
end Go.Proofs.YthkbbcdnmdjhdaaGreat
