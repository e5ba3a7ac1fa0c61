/-
  The reference's array: its disks, Save, Format, Voice, Quorum.
-/
import Derived.Test.YthkbbcdnmdjhdaaGreatArC
import Derived.Test.YthkbbcdnmdjhdaaGreatArD
import Derived.Test.YthkbbcdnmdjhdaaGreatRvC
/-! XRvA: The reference's array: its disks, Save, Format, Voice, Quorum. -/
namespace Go.Proofs.YthkbbcdnmdjhdaaGreat
open Go.RowKit Dk
set_option maxRecDepth 100000
set_option maxHeartbeats 4000000
attribute [local go_sem] min_int2 max_int2 bstr_toList

/-- The reference's array with its fuse and its disks, and what else there is. -/
def memV (a : AA) (fp : Option Nat) (s : AS) (Y : Thing) : Thing := (rarrT a).star ((rfuseT fp s.z).star ((refsT fp a.ss s.ds).star Y))
theorem memV_in {a : AA} {fp : Option Nat} {s : AS} {X Y : Thing} : (X.star (memV a fp s Y)).Ent (memV a fp s (X.star Y)) :=
  Thing.Ent.swap.trans (.star (.refl _) (Thing.Ent.swap.trans (.star (.refl _) .swap)))
theorem memV_out {a : AA} {fp : Option Nat} {s : AS} {X Y : Thing} : (memV a fp s (X.star Y)).Ent (X.star (memV a fp s Y)) :=
  (Thing.Ent.star (.refl _) ((Thing.Ent.star (.refl _) .swap).trans .swap)).trans .swap
section
variable {w0 w w' : World} {Y Z X : Thing} {fp : Option Nat} {a : AA} {s : AS} {i sa n : Nat}
theorem rarrT.cells (h : Lab w0 w (rarrT a)) : w.cell? ⟨a.ab, 0, none⟩ = some (.int .i64 a.K) ∧ w.cell? ⟨a.ab, 1, none⟩ = some (.int .i64 a.M) ∧ w.cell? ⟨a.ab, 2, none⟩ = some (.int .i64 a.B) ∧ w.cell? ⟨a.ab, 3, none⟩ = some (.pointer (some ⟨a.cb, 0, none⟩)) ∧ w.cell? ⟨a.ab, 4, none⟩ = some (.slice (some ⟨a.gs, 0, none⟩) a.ss.length a.gc) := by
  have hr := rowT.row h.left
  exact ⟨hr.cell rfl, hr.cell rfl, hr.cell rfl, hr.cell rfl, hr.cell rfl⟩
theorem rarrT.disk (h : Lab w0 w (rarrT a)) (hs : a.ss[i]? = some sa) : w.cell? ⟨a.gs, i, none⟩ = some (.pointer (some ⟨sa, 0, none⟩)) := by
  have ho := ownT.own h.right
  obtain ⟨p, q, e, -, -, hc⟩ := ho.cells
  have hx : (a.ss.map rval)[i]? = some (rval sa) := by rw [List.getElem?_map, hs]; rfl
  obtain ⟨ad, e1, h1⟩ := hc i _ hx
  have e2 : a.dv = .slice (some ⟨a.gs, 0, none⟩) a.ss.length a.gc := rfl
  rw [e2] at e
  simp only [Value.slice.injEq] at e
  rw [← e.1] at e1
  cases e1
  rw [Addr.add_lit, Nat.zero_add] at h1
  exact h1
theorem Lab.vop {P : Program} {f : FuncId} {args : Array Value} {F : Option FS → DS → Nat × Option FS × DS} (hL : Lab w0 w (memV a fp s Y)) (hk : a.Ok s) (hs : a.ss[i]? = some sa)
    (h : ∀ (Y' : Thing), Lab w0 w ((rfuseT fp s.z).star ((refT sa fp (s.ds.getD i dz)).star Y')) → Calls P f args w fun e w' => e = .returned (.int .i64 ((F s.z (s.ds.getD i dz)).1 : Nat)) ∧ Lab w0 w' ((rfuseT fp (F s.z (s.ds.getD i dz)).2.1).star ((refT sa fp (F s.z (s.ds.getD i dz)).2.2).star Y'))) :
    Calls P f args w fun e w' => e = .returned (.int .i64 ((s.op i F).1 : Nat)) ∧ Lab w0 w' (memV a fp (s.op i F).2 Y) := by
  obtain ⟨d, h1, h2, h3⟩ := hk.sd hs
  have hL1 : Lab w0 w ((rarrT a).star ((rfuseT fp s.z).star ((refsT fp a.ss s.ds).star Y))) := hL
  refine (h _ (by rw [h2]; exact hL1.third'.rout1 hs h1)).mono ?_
  rintro e w' ⟨k1, k2⟩
  exact ⟨k1, (k2.rback1 hs h3).third⟩
theorem Lab.vwrite (hL : Lab w0 w (memV a fp s Y)) (hk : a.Ok s) (hA : ASnd s n) (hn : n < 1099511627776) (hs : a.ss[i]? = some sa) (p : Path) (v : Value) (b : List UInt8) (hp : p.length ≤ maxLen) (hv : Bytes w v b) (hb : b.length ≤ 140737488351232) :
    Calls Tryz.prog 76 #[.pointer (some ⟨sa, 0, none⟩), .string (bstr p), v] w fun e w' => e = .returned (.int .i64 ((s.op i fun z d => writes z d p b).1 : Nat)) ∧ Lab w0 w' (memV a fp (s.op i fun z d => writes z d p b).2 Y) :=
  hL.vop hk hs fun _ h => h.rwrite p v b (by have := hA.ops; omega) hp hv hb (Nat.le_trans (hA.getD i).bytes (by decide)) (hA.getD i).len
theorem Lab.vsync (hL : Lab w0 w (memV a fp s Y)) (hk : a.Ok s) (hA : ASnd s n) (hn : n < 1099511627776) (hs : a.ss[i]? = some sa) (p : Path) (hp : p.length ≤ maxLen) :
    Calls Tryz.prog 77 #[.pointer (some ⟨sa, 0, none⟩), .string (bstr p)] w fun e w' => e = .returned (.int .i64 ((s.op i fun z d => syncs z d p).1 : Nat)) ∧ Lab w0 w' (memV a fp (s.op i fun z d => syncs z d p).2 Y) :=
  hL.vop hk hs fun _ h => h.rsync p (by have := hA.ops; omega) hp (hA.getD i).len
theorem Lab.vdelete (hL : Lab w0 w (memV a fp s Y)) (hk : a.Ok s) (hA : ASnd s n) (hn : n < 1099511627776) (hs : a.ss[i]? = some sa) (p : Path) (hp : p.length ≤ maxLen) :
    Calls Tryz.prog 89 #[.pointer (some ⟨sa, 0, none⟩), .string (bstr p)] w fun e w' => e = .returned (.int .i64 ((s.op i fun z d => deletes z d p).1 : Nat)) ∧ Lab w0 w' (memV a fp (s.op i fun z d => deletes z d p).2 Y) :=
  hL.vop hk hs fun _ h => h.rdelete p (by have := hA.ops; omega) hp (hA.getD i).len
theorem Lab.vrename (hL : Lab w0 w (memV a fp s Y)) (hk : a.Ok s) (hA : ASnd s n) (hn : n < 1099511627776) (hs : a.ss[i]? = some sa) (p q : Path) (hp : p.length ≤ maxLen) (hq : q.length ≤ maxLen) :
    Calls Tryz.prog 78 #[.pointer (some ⟨sa, 0, none⟩), .string (bstr p), .string (bstr q)] w fun e w' => e = .returned (.int .i64 ((s.op i fun z d => renames z d p q).1 : Nat)) ∧ Lab w0 w' (memV a fp (s.op i fun z d => renames z d p q).2 Y) :=
  hL.vop hk hs fun _ h => h.rrename p q (by have := hA.ops; omega) hp hq (hA.getD i).len
theorem Lab.vread (hL : Lab w0 w (memV a fp s Y)) (hk : a.Ok s) (hA : ASnd s n) (hn : n < 1099511627776) (hs : a.ss[i]? = some sa) (p : Path) (hp : p.length ≤ maxLen) :
    Calls Tryz.prog 75 #[.pointer (some ⟨sa, 0, none⟩), .string (bstr p)] w fun e w' => ∃ u, e = .returned (.tuple #[u, .int .i64 ((s.read i p).1.1 : Nat)]) ∧ Lab w0 w' ((ownT 5 u (bvs (s.read i p).1.2)).star (memV a fp (s.read i p).2 Y)) := by
  obtain ⟨d, h1, h2, h3⟩ := hk.sd hs
  have hL1 : Lab w0 w ((rarrT a).star ((rfuseT fp s.z).star ((refsT fp a.ss s.ds).star Y))) := hL
  have hd := hA.getD i
  unfold AS.read
  rw [h2] at hd ⊢
  refine ((hL1.third'.rout1 hs h1).rread p (by have := hA.ops; omega) hp (Nat.le_trans hd.bytes (by decide)) hd.len).mono ?_
  rintro e w' ⟨u, k1, k2⟩
  refine ⟨u, k1, ?_⟩
  have k3 := ((k2.ent (.star (.refl _) (.star (.refl _) ((Thing.Ent.assoc').trans (.star (refsT.put hs h3) (.refl _))))))).ent (.star (.refl _) (Thing.Ent.trans (.star (.refl _) .swap) .swap))
  unfold memV AS.op
  rw [h2]
  exact k3
end
theorem rvsave_any (a : AA) (fp : Option Nat) (s : AS) (Y : Thing) (n : Nat) (i : Nat) (p : Path) (v : Value) (b : List UInt8) (w0 w : World) (hL : Lab w0 w (memV a fp s Y)) (hk : a.Ok s) (hA : ASnd s n) (hn : n < 1000000000) (hi : i < a.ss.length) (hp : p.length ≤ maxLen) (hv : Bytes w v b) (hb : b.length ≤ 140737488351232) :
    Calls Tryz.prog 34 #[.pointer (some ⟨a.ab, 0, none⟩), .int .i64 i, .string (bstr p), v] w fun e w' => e = .returned (.int .i64 ((s.save i p b).1 : Nat)) ∧ Lab w0 w' (memV a fp (s.save i p b).2 Y) := by
  obtain ⟨sa, hs⟩ : ∃ sa, a.ss[i]? = some sa := ⟨_, List.getElem?_eq_getElem hi⟩
  obtain ⟨va, vc, rfl⟩ := hv.slice
  obtain ⟨q, hq⟩ : ∃ q, b.length = q := ⟨_, rfl⟩
  rw [hq] at hv hb ⊢
  have HV := Lib.hid (And.intro hv (And.intro hb hq))
  have HL := Lib.hid hL
  have HK := Lib.hid (And.intro hk (And.intro hA hs))
  have HP := Lib.hid hp
  obtain ⟨-, -, -, -, c4⟩ := rarrT.cells hL.left
  have c5 := rarrT.disk hL.left hs
  obtain ⟨m, hm⟩ : ∃ m, a.ss.length = m := ⟨_, rfl⟩
  rw [hm] at c4 hi
  have q1 : (i : Int) < (m : Int) := by omega
  have q2 : 0 ≤ (i : Int) := by omega
  obtain ⟨t1, ht1⟩ : ∃ t1, (s.op i fun z d => writes z d tmpP b) = t1 := ⟨_, rfl⟩
  obtain ⟨t2, ht2⟩ : ∃ t2, (t1.2.op i fun z d => syncs z d tmpP) = t2 := ⟨_, rfl⟩
  obtain ⟨t3, ht3⟩ : ∃ t3, (t2.2.op i fun z d => renames z d tmpP p) = t3 := ⟨_, rfl⟩
  have HT := Lib.hid (And.intro ht1 (And.intro ht2 ht3))
  have HR := Lib.hid (show s.save i p b = if t1.1 ≠ 0 then t1 else if t2.1 ≠ 0 then t2 else t3 by unfold AS.save; rw [ht1, ht2, ht3])
  have hA1 := hA.write i tmpP b
  have hA2 := hA1.sync i tmpP
  rw [ht1] at hA1 hA2
  rw [ht2] at hA2
  have hk1 : a.Ok t1.2 := hk.of (by rw [← ht1]; exact AS.op_len ..)
  have hk2 : a.Ok t2.2 := hk1.of (by rw [← ht2]; exact AS.op_len ..)
  have HA := Lib.hid (And.intro hA1 (And.intro hA2 (And.intro hk1 hk2)))
  clear hL hk hA hs hp hv hb hq ht1 ht2 ht3 hA1 hA2 hk1 hk2 hi hm
  go_enter Tryz.func34, Tryz.ntmps34
  go_wp2_with fail
  refine (Lab.vwrite HL.out HK.out.1 HK.out.2.1 (by omega) HK.out.2.2 tmpP _ b (by decide) HV.out.1 (by rw [HV.out.2.2]; exact HV.out.2.1)).mono ?_; rintro e w1 ⟨rfl, hL⟩
  rw [HT.out.1] at hL ⊢
  have L1 := Lib.hid hL
  clear hL c4 c5
  obtain ⟨r1, s1⟩ := t1
  simp only at L1 HA HR HT ⊢
  by_cases h1 : r1 = 0
  case neg =>
    have q1 : ((r1 : Int) == 0) = false := by simp; omega
    rw [if_pos h1] at HR
    clear h1
    go_wp2_with fail
    go_ret
    rw [HR.out]
    exact ⟨rfl, L1.out⟩
  subst h1
  rw [if_neg (by simp)] at HR
  go_wp2_with fail
  refine (Lab.vsync L1.out HA.out.2.2.1 HA.out.1 (by omega) HK.out.2.2 tmpP (by decide)).mono ?_; rintro e w2 ⟨rfl, hL⟩
  rw [HT.out.2.1] at hL ⊢
  have L2 := Lib.hid hL
  clear hL L1
  obtain ⟨r2, s2⟩ := t2
  simp only at L2 HA HR HT ⊢
  by_cases h2 : r2 = 0
  case neg =>
    have q1 : ((r2 : Int) == 0) = false := by simp; omega
    rw [if_pos h2] at HR
    clear h2
    go_wp2_with fail
    go_ret
    rw [HR.out]
    exact ⟨rfl, L2.out⟩
  subst h2
  rw [if_neg (by simp)] at HR
  go_wp2_with fail
  refine (Lab.vrename L2.out HA.out.2.2.2 HA.out.2.1 (by omega) HK.out.2.2 tmpP p (by decide) HP.out).mono ?_; rintro e w3 ⟨rfl, hL⟩
  rw [HT.out.2.2] at hL ⊢
  have L3 := Lib.hid hL
  clear hL L2
  go_wp2_with fail
  go_ret
  rw [HR.out]
  exact ⟨rfl, L3.out⟩
theorem rvsave_no (a : AA) (i : Int) (pv v : Value) (w0 w : World) (hL : Lab w0 w (rarrT a)) (hi : ¬ (0 ≤ i ∧ i < a.ss.length)) :
    Calls Tryz.prog 34 #[.pointer (some ⟨a.ab, 0, none⟩), .int .i64 i, pv, v] w fun e w' => e = .returned (.int .i64 1) ∧ w = w' := by
  obtain ⟨-, -, -, -, c4⟩ := rarrT.cells hL
  obtain ⟨m, hm⟩ : ∃ m, a.ss.length = m := ⟨_, rfl⟩
  rw [hm] at c4 hi
  clear hL hm
  by_cases h0 : i < 0
  · go_enter Tryz.func34, Tryz.ntmps34
    go_wp2_with fail
    go_ret
    exact ⟨rfl, rfl⟩
  · have q1 : (m : Int) ≤ i := by omega
    have q0 : 0 ≤ i := by omega
    clear hi h0
    go_enter Tryz.func34, Tryz.ntmps34
    go_wp2_with fail
    go_ret
    exact ⟨rfl, rfl⟩
theorem rwords_any (ab K M i : Nat) (hK : K ≤ 255) (hM : M ≤ 255) (hi : i ≤ 255) (w : World) (c0 : w.cell? ⟨ab, 0, none⟩ = some (.int .i64 K)) (c1 : w.cell? ⟨ab, 1, none⟩ = some (.int .i64 M)) :
    Calls Tryz.prog 72 #[.pointer (some ⟨ab, 0, none⟩), .int .i64 i] w fun e w' => ∃ u, e = .returned u ∧ Own w' w.heap.size 5 u (bvs (fmtB K M i)) ∧ Ext w w' := by
  have hwK : IntKind.u8.wrap (K : Int) = (K : Int) := by rw [IntKind.wrap_u8]; omega
  have hwM : IntKind.u8.wrap (M : Int) = (M : Int) := by rw [IntKind.wrap_u8]; omega
  have hwi : IntKind.u8.wrap (i : Int) = (i : Int) := by rw [IntKind.wrap_u8]; omega
  have hbv : ∀ n : Nat, n ≤ 255 → bv (UInt8.ofNat n) = .int .u8 (n : Int) := fun n hn => by unfold bv; rw [UInt8.toNat_ofNat', Nat.mod_eq_of_lt (by omega)]
  have HA := Lib.hid (show bvs (fmtA K M i) = [.int .u8 83, .int .u8 66, .int .u8 70, .int .u8 49] ++ [.int .u8 (K : Int), .int .u8 (M : Int), .int .u8 (i : Int)] by
    show [bv 83, bv 66, bv 70, bv 49, bv (UInt8.ofNat K), bv (UInt8.ofNat M), bv (UInt8.ofNat i)] = _
    rw [hbv K hK, hbv M hM, hbv i hi]
    rfl)
  clear hbv
  have S0 : (fun w' : World => w'.cell? ⟨ab, 0, none⟩ = some (.int .i64 K) ∧ w'.cell? ⟨ab, 1, none⟩ = some (.int .i64 M)) w.drew := ⟨c0, c1⟩
  have cs1 : ∀ (C : Array Value) (n c : Nat), (convert 24 24 (.slice (some ⟨w.heap.size, 0, none⟩) n c)).run Tryz.prog (w.alloc (.cells C 5)).drew = .ok (.slice (some ⟨w.heap.size, 0, none⟩) n c) (w.alloc (.cells C 5 (C.size, C.size + 1))).drew := fun C n c => Lib.run_convert_bytes_const (P := Tryz.prog) w.drew 24 5 C n c Tryz.underlying24 Tryz.underlying5
  have cs2 : ∀ (C : Array Value) (X : Obj) (n c : Nat), (convert 24 24 (.slice (some ⟨w.heap.size, 0, none⟩) n c)).run Tryz.prog ((w.alloc (.cells C 5)).alloc X).drew = .ok (.slice (some ⟨w.heap.size, 0, none⟩) n c) ((w.alloc (.cells C 5 (C.size, C.size + 1))).alloc X).drew := fun C X n c => run_convert_bytes_const2 (P := Tryz.prog) w.drew 24 5 C X n c Tryz.underlying24 Tryz.underlying5
  have cs3 : ∀ (C : Array Value) (X : Obj) (n c : Nat), (convert 24 24 (.slice (some ⟨w.heap.size + 1, 0, none⟩) n c)).run Tryz.prog ((w.alloc X).alloc (.cells C 5)).drew = .ok (.slice (some ⟨w.heap.size + 1, 0, none⟩) n c) ((w.alloc X).alloc (.cells C 5 (C.size, C.size + 1))).drew := fun C X n c => by
    have h := Lib.run_convert_bytes_const (P := Tryz.prog) (w.drew.alloc X) 24 5 C n c Tryz.underlying24 Tryz.underlying5
    have e : (w.drew.alloc X).heap.size = w.heap.size + 1 := by simp
    rw [e] at h
    exact h
  have X2 : ∀ a b : Obj, Ext w ((w.alloc a).alloc b).drew := fun a b => Ext.trans (Ext.trans (Ext.trans ((Ext.refl w).alloc (Nat.le_refl _) a) ((Ext.refl _).alloc (Nat.le_refl _) b)) (Ext.of_drawn _ 1)) (Ext.refl _)
  go_enter Tryz.func72, Tryz.ntmps72
  go_wp2_with fail
  go_region_held_law (fun w' : World => w'.cell? ⟨ab, 0, none⟩ = some (.int .i64 K) ∧ w'.cell? ⟨ab, 1, none⟩ = some (.int .i64 M)) (first | go_keep | exact ⟨(Ext.trans (X2 _ _) hx5).cell c0, (Ext.trans (X2 _ _) hx5).cell c1⟩)
    ((refine step_of_wp rfl (wp_appfull _ _ 24 24 5 (.int .u8 0) 1 rfl Tryz.underlying24 info_u8' rfl 4 (by rfl) (cs := [.int .u8 83, .int .u8 66, .int .u8 70, .int .u8 49]) rfl (by first | exact cells_block (heap_a1 _ _ _) rfl rfl | exact cells_block (heap_a2 _ _ _) rfl rfl) (by rfl) (news := [.int .u8 (K : Int), .int .u8 (M : Int), .int .u8 (i : Int)]) (Cells.src Tryz.underlying24 (by first | exact cells_block (heap_a2 _ _ _) rfl rfl | exact cells_block (heap_a1 _ _ _) rfl rfl) (by simp [Value.oneCell'])) (by simp) (by simp [maxLen]) (by simp) 7 (by simp) ?_); intro ad c w5 hO hx5))
  all_goals
    have hO := hO.mono (B' := w.heap.size) (X2 _ _).size
    have hx5 := Ext.trans (X2 _ _) hx5
    rw [← HA.out] at hO
    have HO := Lib.hid hO
    have HX := Lib.hid hx5
    clear hO hx5 cs1 cs2 cs3 X2 S0
    go_wp2_with fail
    refine (rcrcsum_any _ (fmtA K M i) (by show 7 ≤ maxLen; unfold maxLen; decide) _ HO.out.cells).mono ?_; rintro e w' ⟨rfl, rfl⟩
    obtain ⟨z, hz⟩ : ∃ z, csum (fmtA K M i) = z := ⟨_, rfl⟩
    have hzl : z < 4294967296 := by rw [← hz]; exact csum_lt _
    rw [hz]
    have HZ := Lib.hid (show fmtB K M i = fmtA K M i ++ cbytes z by rw [fmtB, hz])
    go_wp2_with fail
    refine (rcrcbytes_any z hzl _ _ emp (Lab.start _)).mono ?_; rintro e w7 ⟨u, rfl, hL⟩
    have hB := (ownT.own hL.left).cells
    have hx7 := hL.toExt
    obtain ⟨ua, uc, rfl⟩ := Own.slice' (ownT.own hL.left)
    rw [show (bvs (cbytes z)).length = 4 from rfl] at hB ⊢
    have HB := Lib.hid (And.intro hB (And.intro (HO.out.ext hx7) (Ext.trans HX.out hx7)))
    clear hB hx7 hL
    go_wp2_with (at_builtin; refine list_of_wp rfl fun KK hKK => wp_appx _ _ 24 24 5 (.int .u8 0) 1 rfl Tryz.underlying24 info_u8' rfl rfl HB.out.2.1 rfl (Cells.src Tryz.underlying24 HB.out.1 (bvs_one _)) (by show 7 + 4 ≤ maxLen; unfold maxLen; decide) (by show (2 * (7 + 4) + 768) * 1 ≤ _; decide) HB.out.2.2.size 11 rfl fun ad4 c4 w8 ha => hKK _ _ ?_)
    have hN := ha.1
    rw [show bvs (fmtA K M i) ++ bvs (cbytes z) = bvs (fmtB K M i) by rw [HZ.out]; simp [bvs]] at hN
    have hX7 := Below.grown HB.out.2.2 ha.2.1 HB.out.2.2.size (fun k hk => HB.out.2.1.block k hk)
    have HN := Lib.hid (And.intro hN hX7)
    clear hN hX7 ha
    go_wp2_with fail
    go_ret
    exact ⟨_, rfl, HN.out.1, HN.out.2⟩
theorem rvformat_any (a : AA) (fp : Option Nat) (s : AS) (Y : Thing) (n : Nat) (i : Nat) (w0 w : World) (hL : Lab w0 w (memV a fp s Y)) (hk : a.Ok s) (hA : ASnd s n) (hn : n < 1000000000) (hi : i < a.ss.length) :
    Calls Tryz.prog 30 #[.pointer (some ⟨a.ab, 0, none⟩), .int .i64 i] w fun e w' => e = .returned (.int .i64 ((s.save i fmtP (fmtB a.K a.M i)).1 : Nat)) ∧ Lab w0 w' (memV a fp (s.save i fmtP (fmtB a.K a.M i)).2 Y) := by
  have HL := Lib.hid hL
  have HK := Lib.hid (And.intro hk (And.intro hA hi))
  obtain ⟨-, -, -, -, c4⟩ := rarrT.cells hL.left
  obtain ⟨m, hm⟩ : ∃ m, a.ss.length = m := ⟨_, rfl⟩
  rw [hm] at c4
  have q1 : (i : Int) < (m : Int) := by omega
  have q2 : 0 ≤ (i : Int) := by omega
  clear hL hk hA hi hm
  go_enter Tryz.func30, Tryz.ntmps30
  go_wp2_with fail
  obtain ⟨c0, c1, -, -, -⟩ := rarrT.cells HL.out.left
  refine (rwords_any a.ab a.K a.M i (by have := HK.out.1.n255; omega) (by have := HK.out.1.n255; omega) (by have := HK.out.1.n255; have := HK.out.1.n; have := HK.out.2.2; omega) _ c0 c1).mono ?_; rintro e w1 ⟨u, rfl, hU, x1⟩
  have L1 := Lib.hid (HL.out.ext x1)
  have HU := Lib.hid hU.cells
  clear hU x1 c0 c1 c4
  go_wp2_with fail
  refine (rvsave_any a fp s Y n i fmtP _ _ w0 _ L1.out HK.out.1 HK.out.2.1 hn HK.out.2.2 (by decide) HU.out (by show 7 + 4 ≤ _; decide)).mono ?_; rintro e w2 ⟨rfl, hL⟩
  have L2 := Lib.hid hL
  clear hL
  go_wp2_with fail
  go_ret
  exact ⟨rfl, L2.out⟩
theorem rvformat_no (a : AA) (i : Int) (w0 w : World) (hL : Lab w0 w (rarrT a)) (hi : ¬ (0 ≤ i ∧ i < a.ss.length)) :
    Calls Tryz.prog 30 #[.pointer (some ⟨a.ab, 0, none⟩), .int .i64 i] w fun e w' => e = .returned (.int .i64 1) ∧ w = w' := by
  obtain ⟨-, -, -, -, c4⟩ := rarrT.cells hL
  obtain ⟨m, hm⟩ : ∃ m, a.ss.length = m := ⟨_, rfl⟩
  rw [hm] at c4 hi
  clear hL hm
  by_cases h0 : i < 0
  · go_enter Tryz.func30, Tryz.ntmps30
    go_wp2_with fail
    go_ret
    exact ⟨rfl, rfl⟩
  · have q1 : (m : Int) ≤ i := by omega
    have q0 : 0 ≤ i := by omega
    clear hi h0
    go_enter Tryz.func30, Tryz.ntmps30
    go_wp2_with fail
    go_ret
    exact ⟨rfl, rfl⟩
theorem rvvoice_any (a : AA) (fp : Option Nat) (s : AS) (Y : Thing) (n : Nat) (i : Nat) (w0 w : World) (hL : Lab w0 w (memV a fp s Y)) (hk : a.Ok s) (hA : ASnd s n) (hn : n < 1000000000) (hi : i < a.ss.length) :
    Calls Tryz.prog 32 #[.pointer (some ⟨a.ab, 0, none⟩), .int .i64 i] w fun e w' => e = .returned (.tuple #[.bool (s.voice i (fmtB a.K a.M i)).1.1, .int .i64 ((s.voice i (fmtB a.K a.M i)).1.2 : Nat)]) ∧ Lab w0 w' (memV a fp (s.voice i (fmtB a.K a.M i)).2 Y) := by
  obtain ⟨sa, hs⟩ : ∃ sa, a.ss[i]? = some sa := ⟨_, List.getElem?_eq_getElem hi⟩
  have HL := Lib.hid hL
  have HK := Lib.hid (And.intro hk (And.intro hA (And.intro hs hi)))
  obtain ⟨-, -, -, -, c4⟩ := rarrT.cells hL.left
  have c5 := rarrT.disk hL.left hs
  obtain ⟨m, hm⟩ : ∃ m, a.ss.length = m := ⟨_, rfl⟩
  rw [hm] at c4
  have q1 : (i : Int) < (m : Int) := by omega
  have q2 : 0 ≤ (i : Int) := by omega
  obtain ⟨r, hr⟩ : ∃ r, s.read i fmtP = r := ⟨_, rfl⟩
  have HV := Lib.hid (show s.voice i (fmtB a.K a.M i) = (if r.1.1 = 0 then (r.1.2 == fmtB a.K a.M i, 0) else if r.1.1 = 6 then (false, 0) else (false, r.1.1), r.2) by unfold AS.voice; rw [hr])
  have HR := Lib.hid hr
  clear hL hk hA hs hi hr hm
  go_enter Tryz.func32, Tryz.ntmps32
  go_wp2_with fail
  refine (Lab.vread HL.out HK.out.1 HK.out.2.1 (by omega) HK.out.2.2.1 fmtP (by decide)).mono ?_; rintro e w1 ⟨u, rfl, hL⟩
  rw [HR.out] at hL ⊢
  obtain ⟨⟨r1, rb⟩, s1⟩ := r
  simp only at hL HV ⊢
  obtain ⟨ua, uc, rfl⟩ := Own.slice' (ownT.own hL.left)
  rw [bvs_len] at hL ⊢
  have L1 := Lib.hid hL
  clear hL c4 c5
  by_cases h6 : r1 = 6
  · subst h6
    rw [if_neg (by decide), if_pos rfl] at HV
    go_wp2_with fail
    go_ret2
    rw [HV.out]
    exact ⟨rfl, L1.out.right⟩
  have q6 : ((r1 : Int) == 6) = false := by simp; omega
  by_cases h0 : r1 = 0
  case neg =>
    rw [if_neg h0, if_neg h6] at HV
    have q0 : ((r1 : Int) != 0) = true := by simp; omega
    clear h0 h6
    go_wp2_with fail
    go_ret2
    rw [HV.out]
    exact ⟨rfl, L1.out.right⟩
  subst h0
  rw [if_pos rfl] at HV
  obtain ⟨c0, c1, -, -, -⟩ := rarrT.cells L1.out.right.left
  have S0 : (fun w' : World => (convert 24 9 (.slice ua rb.length uc)).run Tryz.prog w' = .ok (.string (bstr rb)) w') w1.drew := str_conv (ownT.own L1.out.left).cells _ (Ext.of_drawn w1 1)
  have F1 : Hid (Calls Tryz.prog 72 #[.pointer (some ⟨a.ab, 0, none⟩), .int .i64 i] w1.drew fun e w' => ∃ va vc, e = .returned (.slice va 11 vc) ∧ (fun w' : World => (convert 24 9 (.slice ua rb.length uc)).run Tryz.prog w' = .ok (.string (bstr rb)) w') w' ∧ (convert 24 9 (.slice va 11 vc)).run Tryz.prog w' = .ok (.string (bstr (fmtB a.K a.M i))) w' ∧ Lab w0 w' ((ownT 5 (.slice ua rb.length uc) (bvs rb)).star (memV a fp s1 Y))) := Lib.hid (by
    refine (rwords_any a.ab a.K a.M i (by have := HK.out.1.n255; omega) (by have := HK.out.1.n255; omega) (by have := HK.out.1.n255; have := HK.out.1.n; have := HK.out.2.2.2; omega) _ ((Ext.of_drawn w1 1).cell c0) ((Ext.of_drawn w1 1).cell c1)).mono ?_
    rintro e w2 ⟨v, rfl, hV, x2⟩
    obtain ⟨va, vc, rfl⟩ := Own.slice' hV
    exact ⟨va, vc, rfl, str_conv (ownT.own L1.out.left).cells _ (Ext.trans (Ext.of_drawn w1 1) x2), str_conv hV.cells w2 (Ext.refl _), L1.out.drew.ext x2⟩)
  clear c0 c1
  go_wp2_with fail
  go_region_held_law (fun w' : World => (convert 24 9 (.slice ua rb.length uc)).run Tryz.prog w' = .ok (.string (bstr rb)) w') (assumption) (first | (go_at_call 72; refine F1.out.mono ?_; rintro e w4 ⟨va, vc, rfl, hS4, y4, hL4⟩))
  have L4 := Lib.hid hL4
  clear S0 F1 hS4 hL4 y4
  go_wp2_with fail
  go_ret2
  rw [HV.out]
  exact ⟨by simp, L4.out.right⟩
theorem rvvoice_no (a : AA) (i : Int) (w0 w : World) (hL : Lab w0 w (rarrT a)) (hi : ¬ (0 ≤ i ∧ i < a.ss.length)) :
    Calls Tryz.prog 32 #[.pointer (some ⟨a.ab, 0, none⟩), .int .i64 i] w fun e w' => e = .returned (.tuple #[.bool false, .int .i64 1]) ∧ w = w' := by
  obtain ⟨-, -, -, -, c4⟩ := rarrT.cells hL
  obtain ⟨m, hm⟩ : ∃ m, a.ss.length = m := ⟨_, rfl⟩
  rw [hm] at c4 hi
  clear hL hm
  by_cases h0 : i < 0
  · go_enter Tryz.func32, Tryz.ntmps32
    go_wp2_with fail
    go_ret2
    exact ⟨rfl, rfl⟩
  · have q1 : (m : Int) ≤ i := by omega
    have q0 : 0 ≤ i := by omega
    clear hi h0
    go_enter Tryz.func32, Tryz.ntmps32
    go_wp2_with fail
    go_ret2
    exact ⟨rfl, rfl⟩
theorem rvvoices_any (a : AA) (fp : Option Nat) (s : AS) (Y : Thing) (n : Nat) (w0 w : World) (hL : Lab w0 w (memV a fp s Y)) (hk : a.Ok s) (hA : ASnd s n) (hn : n < 900000000) :
    Calls Tryz.prog 37 #[.pointer (some ⟨a.ab, 0, none⟩)] w fun e w' => ∃ u, e = .returned u ∧ Lab w0 w' ((ownT 3 u (ivs ((s.voices (fmtB a.K a.M) a.ss.length).1.map Int.ofNat))).star (memV a fp (s.voices (fmtB a.K a.M) a.ss.length).2 Y)) := by
  have HL := Lib.hid hL
  have HK := Lib.hid (And.intro hk hA)
  obtain ⟨m, hm⟩ : ∃ m, a.ss.length = m := ⟨_, rfl⟩
  rw [hm]
  have HC := Lib.hid (show ∀ W (X : Thing) s', Lab w0 W (X.star (memV a fp s' Y)) → W.cell? ⟨a.ab, 4, none⟩ = some (.slice (some ⟨a.gs, 0, none⟩) m a.gc) from fun W X s' h => hm ▸ (rarrT.cells h.right.left).2.2.2.2)
  have hm2 : m ≤ 255 := by have := hk.n; have := hk.n255; omega
  have HM := Lib.hid hm
  obtain ⟨V, hV⟩ : ∃ V : Nat → List Nat × AS, V = s.voices (fmtB a.K a.M) := ⟨_, rfl⟩
  have HV := Lib.hid hV
  rw [← hV]
  have L0 := Lib.hid (ownT.nil 3 hL)
  clear hL hk hA hm hV
  go_enter Tryz.func37, Tryz.ntmps37
  go_wp2_with fail
  go_loopw [3, 4] (fun v3 v9 wr => ∃ (i : Nat) (xa : Option Addr) (xc : Nat), i ≤ m ∧ v9 = .int .i64 (i : Nat) ∧ v3 = .slice xa (V i).1.length xc ∧ Hid (Lab w0 wr ((ownT 3 (.slice xa (V i).1.length xc) (ivs ((V i).1.map Int.ofNat))).star (memV a fp (V i).2 Y)))) (fun _ v9 _ => (m - intOf v9).toNat)
  case atStart => exact ⟨0, none, 0, by omega, rfl, by rw [HV.out]; rfl, Lib.hid (by rw [HV.out]; exact L0.out)⟩
  case round =>
    obtain ⟨i, xa, xc, hi, rfl, rfl, HI⟩ := hrel
    have c4 := HC.out _ _ _ HI.out
    by_cases hlt : i < m
    · have hlt' : (i : Int) < (m : Int) := by omega
      have hst : V (i + 1) = (if ((V i).2.voice i (fmtB a.K a.M i)).1.1 = true then (V i).1 ++ [i] else (V i).1, ((V i).2.voice i (fmtB a.K a.M i)).2) := by rw [HV.out]; rfl
      have hki : a.Ok (V i).2 := HK.out.1.of (by rw [HV.out]; exact AS.voices_len ..)
      have hAi : ASnd (V i).2 (n + i) := by rw [HV.out]; exact HK.out.2.voices _ i
      have hle : (V i).1.length ≤ 255 := by rw [HV.out]; exact Nat.le_trans (AS.voices_num ..) (by omega)
      obtain ⟨l, t⟩ : ∃ p : List Nat × AS, V i = p := ⟨_, rfl⟩
      obtain ⟨l, s1⟩ := l
      rw [t] at hst hki hAi hle HI ⊢
      simp only at hst hki hAi hle HI ⊢
      obtain ⟨r, hr⟩ : ∃ r, s1.voice i (fmtB a.K a.M i) = r := ⟨_, rfl⟩
      rw [hr] at hst
      have HT := Lib.hid (And.intro hst (And.intro hki (And.intro hAi hr)))
      clear t hst hki hAi hr
      go_wp2_with fail
      refine (rvvoice_any a fp s1 _ (n + i) i w0 _ (HI.out.ent memV_in) HT.out.2.1 HT.out.2.2.1 (by omega) (by rw [HM.out]; exact hlt)).mono ?_; rintro e w1 ⟨rfl, hL⟩
      rw [HT.out.2.2.2] at hL ⊢
      have L1 := Lib.hid (hL.ent memV_out)
      clear hL
      cases hb : r.1.1 with
      | false =>
        have HF := Lib.hid (show V (i + 1) = (l, r.2) by rw [HT.out.1, hb]; rfl)
        clear hb
        go_wp2_with fail
        exact ⟨⟨i + 1, xa, xc, by omega, by go_num, by rw [HF.out], Lib.hid (by rw [HF.out]; exact L1.out)⟩, by simp [intOf]; omega⟩
      | true =>
        have HF := Lib.hid (show V (i + 1) = (l ++ [i], r.2) by rw [HT.out.1, hb]; rfl)
        have HE := Lib.hid (show ivs (l.map Int.ofNat) ++ [.int .i64 (i : Int)] = ivs ((l ++ [i]).map Int.ofNat) by simp)
        have HLE := Lib.hid (show (ivs (l.map Int.ofNat)).length ≤ 100000 by simp; omega)
        clear hb
        go_wp2_with (at_builtin; refine list_of_wp rfl fun KK hKK => wp_lapp1 _ _ 28 3 (.int .i64 0) 8 rfl Tryz.underlying28 info_int rfl (by decide) rfl rfl rfl (by simp) L1.out rfl HLE.out fun ad c w7 hL => hKK _ _ ?_)
        rw [HE.out] at hL
        have HL7 := Lib.hid hL
        clear hL
        go_wp2_with fail
        exact ⟨⟨i + 1, ad, c, by omega, by go_num, by rw [HF.out, List.length_append]; rfl, Lib.hid (by rw [HF.out, List.length_append]; exact HL7.out)⟩, by simp [intOf]; omega⟩
    · obtain rfl : i = m := by omega
      clear hlt
      go_wp2_with fail
      go_ret
      exact ⟨_, rfl, HI.out⟩
end Go.Proofs.YthkbbcdnmdjhdaaGreat
