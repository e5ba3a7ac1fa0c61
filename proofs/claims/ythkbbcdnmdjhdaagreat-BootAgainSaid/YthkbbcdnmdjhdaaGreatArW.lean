/-
  A disk's format: words. append to a full slice that is only read.
-/
import Derived.Test.YthkbbcdnmdjhdaaGreatCrc
import Derived.Deep.RegionHeldLaw
import Derived.Lib.SlBytesConst
/-! XArW: A disk's format: words. append to a full slice that is only read. -/
namespace Go.Proofs.YthkbbcdnmdjhdaaGreat
open Go.RowKit
set_option maxRecDepth 100000
set_option maxHeartbeats 4000000
attribute [local go_sem] min_int2 max_int2

/-- append to a slice that has no room: it need not be the call's own. -/
theorem wp_appfull {P : Program} {w : World} {o : Oper} {a : Act} {Q : Exit → Act → World → Prop} {K : Act → World → Prop} (s x : Operand) (t tx e : TypeId) (z : Value) (bytes : Nat) (ho : o.op = .call { callee := .builtin .append, args := #[s, x], argTypes := #[t, tx] }) (ht : P.underlying t = some (.slice e))
    (hi : (P.info? e).map (fun i => (i.zero, i.size, i.bytes)) = some (some z, 1, bytes)) (hz : z.cells = #[z])
    {g cap : Nat} {cs : List Value} (n : Nat) (hs : a.eval s = .slice (some ⟨g, 0, none⟩) n cap) (hn : n = cs.length) (hC : Cells w (.slice (some ⟨g, 0, none⟩) n cap) cs) {xv : Value} {news : List Value} (hxv : a.eval x = xv) (hx : Src P 1 tx xv news.length news w) (hfull : cap < cs.length + news.length)
    (hm : cs.length + news.length ≤ maxLen) (hb : (2 * (cs.length + news.length) + 768) * bytes ≤ 281474976710656)
    (N : Nat) (hN : N = cs.length + news.length) (hK : ∀ ad c w', Own w' w.heap.size e (.slice ad N c) (cs ++ news) → Ext w w' → K (a.put o.dst (.slice ad N c)) w') : Oper.wp P o a w K Q := by
  subst hn
  obtain ⟨i, hi, hzz, hsz, hby⟩ := info_parts hi
  have hm' : ((cs.length + news.length : Nat) : Int) ≤ 9223372036854775807 := by simp only [maxLen] at hm; omega
  have hfit : Builtin.nextslicecap (cs.length + news.length) cap * i.bytes ≤ 281474976710656 := by
    rw [hby]; exact Nat.le_trans (Nat.mul_le_mul_right _ (nextslicecap_le _ _ hfull)) hb
  obtain ⟨a', cap', e1, -, -, hc⟩ := hC
  simp only [Value.slice.injEq] at e1
  obtain ⟨rfl, -, rfl⟩ := e1
  have hold : (Builtin.firstCells i.size cs.length (.slice (some ⟨g, 0, none⟩) cs.length cap)).run P w.drew = .ok cs.toArray w.drew := by
    refine run_firstCells_some (P := P) w.drew i.size cs.length ⟨g, 0, none⟩ cs.length cap cs (by rw [hsz, Nat.mul_one]) fun j u hu => ?_
    obtain ⟨ad, e2, h2⟩ := hc j u hu
    cases e2
    exact h2
  have hrun := run_append_grow_src (P := P) w t tx o.type e i z ht hi hzz (some ⟨g, 0, none⟩) cs.length cap cs hold xv news.length news (by rw [hsz]; exact hx) (by omega) hm' hfit
  obtain ⟨h1, -, -⟩ := app_grow (w := w) (B := w.heap.size) (e := e) (z := z) (v := .slice none 0 0) (cs := cs) (news := news) hz (Nat.le_refl _) (cs.length + news.length) cap rfl hm
  have hx' : Ext w (w.drew.alloc (.cells ((cs ++ news).toArray ++ Builtin.zeroCells z.cells (grownCap w (cs.length + news.length) cap e - (cs.length + news.length))) e)) := Ext.trans (Ext.of_drawn w 1) ((Ext.refl w.drew).alloc (Nat.le_refl _) _)
  unfold Oper.wp execOp
  simp only [ho, resolve, invoke, builtin, Sem.run_bind, Sem.run_pure, Result.andThen_ok, List.map_toArray, List.map_cons, List.map_nil, hs, hxv, hrun]
  rw [← hN] at h1 hx' ⊢
  exact hK _ _ _ h1 hx'

/-- A constant's bytes, behind another new block. -/
theorem run_convert_bytes_const2 {P : Program} (w : World) (t e : TypeId) (C : Array Value) (X : Obj) (n c : Nat) (ht : P.underlying t = some (.slice e)) (he : P.underlying e = some (.int .u8)) :
    (convert t t (.slice (some ⟨w.heap.size, 0, none⟩) n c)).run P ((w.alloc (.cells C e)).alloc X) = .ok (.slice (some ⟨w.heap.size, 0, none⟩) n c) ((w.alloc (.cells C e (C.size, C.size + 1))).alloc X) := by
  have hsh : ((w.alloc (.cells C e)).alloc X).shape? w.heap.size = some (e, C.size) := by
    have : ((w.alloc (.cells C e)).alloc X).heap[w.heap.size]? = some (.cells C e) := by
      show ((w.heap.push (.cells C e)).push X)[w.heap.size]? = _
      rw [Array.getElem?_push, if_neg (by simp), Array.getElem?_push, if_pos rfl]
    unfold World.shape?
    rw [this]
  have hfr : ∀ (k : Nat), ((w.alloc (.cells C e)).alloc X).freeze ⟨w.heap.size, k, none⟩ 1 = (w.alloc (.cells C e (k, k + 1))).alloc X := fun k => by
    have hm : ∀ (a : Array Obj) (x y : Obj) (f : Obj → Obj), ((a.push x).push y).modify a.size f = (a.push (f x)).push y := by
      intro a x y f
      apply Array.ext
      · simp
      · intro i h1 h2
        simp only [Array.getElem_modify, Array.getElem_push, Array.size_push]
        by_cases h : a.size = i
        · subst h
          simp
        · by_cases hi : i < a.size
          · simp [h, hi, Nat.lt_succ_of_lt hi]
          · have : i = a.size + 1 := by simp at h1; omega
            subst this
            simp
    unfold World.freeze
    rw [if_neg (by decide)]
    show ({ (w.alloc (.cells C e)).alloc X with heap := ((w.heap.push (.cells C e)).push X).modify w.heap.size _ } : World) = _
    rw [hm]
    rfl
  simp [convert, run_underlying ht, run_underlying he, markStringish, hsh]
  exact hfr _
theorem cells_block {w : World} {g n : Nat} {C : Array Value} {e : TypeId} {fz : Nat × Nat} {cs : List Value} (h : w.heap[g]? = some (.cells C e fz)) (hn : n = C.size) (hc : C.toList = cs) : Cells w (.slice (some ⟨g, 0, none⟩) n n) cs := by
  subst hc
  have hl : C.toList.length = n := by rw [hn, Array.length_toList]
  refine ⟨some ⟨g, 0, none⟩, n, by rw [hl], by rw [hl]; exact Nat.le_refl _, (fun h => by cases h), fun j u hu => ⟨_, rfl, ?_⟩⟩
  rw [Addr.add_lit, Nat.zero_add]
  have hj : C[j]? = some u := by rw [← Array.getElem?_toList]; exact hu
  unfold World.cell?
  rw [h]
  exact hj
theorem heap_a1 (w : World) (a b : Obj) : ((w.alloc a).alloc b).drew.heap[w.heap.size]? = some a := by
  show ((w.heap.push a).push b)[w.heap.size]? = _
  rw [Array.getElem?_push, if_neg (by simp), Array.getElem?_push, if_pos rfl]
theorem heap_a2 (w : World) (a b : Obj) : ((w.alloc a).alloc b).drew.heap[w.heap.size + 1]? = some b := by
  show ((w.heap.push a).push b)[w.heap.size + 1]? = _
  rw [Array.getElem?_push, if_pos (by simp)]
/-- What a disk's format says, without its sum. -/
def fmtA (K M i : Nat) : List UInt8 := [83, 66, 70, 49, UInt8.ofNat K, UInt8.ofNat M, UInt8.ofNat i]
def fmtB (K M i : Nat) : List UInt8 := fmtA K M i ++ cbytes (csum (fmtA K M i))
theorem words_any (ab K M i : Nat) (hK : K ≤ 255) (hM : M ≤ 255) (hi : i ≤ 255) (w : World) (c0 : w.cell? ⟨ab, 0, none⟩ = some (.int .i64 K)) (c1 : w.cell? ⟨ab, 1, none⟩ = some (.int .i64 M)) :
    Calls Tryz.prog 71 #[.pointer (some ⟨ab, 0, none⟩), .int .i64 i] w fun e w' => ∃ u, e = .returned u ∧ Own w' w.heap.size 5 u (bvs (fmtB K M i)) ∧ Ext w w' := by
  have hwK : IntKind.u8.wrap (K : Int) = (K : Int) := by rw [IntKind.wrap_u8]; omega
  have hwM : IntKind.u8.wrap (M : Int) = (M : Int) := by rw [IntKind.wrap_u8]; omega
  have hwi : IntKind.u8.wrap (i : Int) = (i : Int) := by rw [IntKind.wrap_u8]; omega
  have hbv : ∀ n : Nat, n ≤ 255 → bv (UInt8.ofNat n) = .int .u8 (n : Int) := fun n hn => by unfold bv; rw [UInt8.toNat_ofNat', Nat.mod_eq_of_lt (by omega)]
  have HA := Lib.hid (show bvs (fmtA K M i) = [.int .u8 83, .int .u8 66, .int .u8 70, .int .u8 49] ++ [.int .u8 (K : Int), .int .u8 (M : Int), .int .u8 (i : Int)] by
    show [bv 83, bv 66, bv 70, bv 49, bv (UInt8.ofNat K), bv (UInt8.ofNat M), bv (UInt8.ofNat i)] = _
    rw [hbv K hK, hbv M hM, hbv i hi]
    rfl)
  clear hbv
  have S0 : (fun w' : World => w'.cell? ⟨ab, 0, none⟩ = some (.int .i64 K) ∧ w'.cell? ⟨ab, 1, none⟩ = some (.int .i64 M)) w.drew := ⟨c0, c1⟩
  have cs1 : ∀ (C : Array Value) (n c : Nat), (convert 24 24 (.slice (some ⟨w.heap.size, 0, none⟩) n c)).run Tryz.prog (w.alloc (.cells C 5)).drew = .ok (.slice (some ⟨w.heap.size, 0, none⟩) n c) (w.alloc (.cells C 5 (C.size, C.size + 1))).drew := fun C n c => Lib.run_convert_bytes_const (P := Tryz.prog) w.drew 24 5 C n c Tryz.underlying24 Tryz.underlying5
  have cs2 : ∀ (C : Array Value) (X : Obj) (n c : Nat), (convert 24 24 (.slice (some ⟨w.heap.size, 0, none⟩) n c)).run Tryz.prog ((w.alloc (.cells C 5)).alloc X).drew = .ok (.slice (some ⟨w.heap.size, 0, none⟩) n c) ((w.alloc (.cells C 5 (C.size, C.size + 1))).alloc X).drew := fun C X n c => run_convert_bytes_const2 (P := Tryz.prog) w.drew 24 5 C X n c Tryz.underlying24 Tryz.underlying5
  have cs3 : ∀ (C : Array Value) (X : Obj) (n c : Nat), (convert 24 24 (.slice (some ⟨w.heap.size + 1, 0, none⟩) n c)).run Tryz.prog ((w.alloc X).alloc (.cells C 5)).drew = .ok (.slice (some ⟨w.heap.size + 1, 0, none⟩) n c) ((w.alloc X).alloc (.cells C 5 (C.size, C.size + 1))).drew := fun C X n c => by
    have h := Lib.run_convert_bytes_const (P := Tryz.prog) (w.drew.alloc X) 24 5 C n c Tryz.underlying24 Tryz.underlying5
    have e : (w.drew.alloc X).heap.size = w.heap.size + 1 := by simp
    rw [e] at h
    exact h
  have X2 : ∀ a b : Obj, Ext w ((w.alloc a).alloc b).drew := fun a b => Ext.trans (Ext.trans (Ext.trans ((Ext.refl w).alloc (Nat.le_refl _) a) ((Ext.refl _).alloc (Nat.le_refl _) b)) (Ext.of_drawn _ 1)) (Ext.refl _)
  go_enter Tryz.func71, Tryz.ntmps71
  go_wp2_with fail
  go_region_held_law (fun w' : World => w'.cell? ⟨ab, 0, none⟩ = some (.int .i64 K) ∧ w'.cell? ⟨ab, 1, none⟩ = some (.int .i64 M)) (first | go_keep | exact ⟨(Ext.trans (X2 _ _) hx5).cell c0, (Ext.trans (X2 _ _) hx5).cell c1⟩)
    ((refine step_of_wp rfl (wp_appfull _ _ 24 24 5 (.int .u8 0) 1 rfl Tryz.underlying24 info_u8' rfl 4 (by rfl) (cs := [.int .u8 83, .int .u8 66, .int .u8 70, .int .u8 49]) rfl (by first | exact cells_block (heap_a1 _ _ _) rfl rfl | exact cells_block (heap_a2 _ _ _) rfl rfl) (by rfl) (news := [.int .u8 (K : Int), .int .u8 (M : Int), .int .u8 (i : Int)]) (Cells.src Tryz.underlying24 (by first | exact cells_block (heap_a2 _ _ _) rfl rfl | exact cells_block (heap_a1 _ _ _) rfl rfl) (by simp [Value.oneCell'])) (by simp) (by simp [maxLen]) (by simp) 7 (by simp) ?_); intro ad c w5 hO hx5))
  all_goals
    have hO := hO.mono (B' := w.heap.size) (X2 _ _).size
    have hx5 := Ext.trans (X2 _ _) hx5
    rw [← HA.out] at hO
    have HO := Lib.hid hO
    have HX := Lib.hid hx5
    clear hO hx5 cs1 cs2 cs3 X2 S0
    go_wp2_with fail
    refine (crcsum_any _ (fmtA K M i) (by show 7 ≤ maxLen; unfold maxLen; decide) _ HO.out.cells).mono ?_; rintro e w' ⟨rfl, rfl⟩
    obtain ⟨z, hz⟩ : ∃ z, csum (fmtA K M i) = z := ⟨_, rfl⟩
    have hzl : z < 4294967296 := by rw [← hz]; exact csum_lt _
    rw [hz]
    have HZ := Lib.hid (show fmtB K M i = fmtA K M i ++ cbytes z by rw [fmtB, hz])
    go_wp2_with fail
    refine (crcbytes_any z hzl _).mono ?_; rintro e w6 ⟨rfl, hB, hx6⟩
    have HB := Lib.hid (And.intro hB.cells (And.intro (HO.out.ext hx6) (Ext.trans HX.out hx6)))
    clear hB hx6
    go_wp2_with (at_builtin; refine list_of_wp rfl fun KK hKK => wp_appx _ _ 24 24 5 (.int .u8 0) 1 rfl Tryz.underlying24 info_u8' rfl rfl HB.out.2.1 rfl (Cells.src Tryz.underlying24 HB.out.1 (bvs_one _)) (by show 7 + 4 ≤ maxLen; unfold maxLen; decide) (by show (2 * (7 + 4) + 768) * 1 ≤ _; decide) HB.out.2.2.size 11 rfl fun ad4 c4 w7 ha => hKK _ _ ?_)
    have hN := ha.1
    rw [show bvs (fmtA K M i) ++ bvs (cbytes z) = bvs (fmtB K M i) by rw [HZ.out]; simp [bvs]] at hN
    have hX7 := Below.grown HB.out.2.2 ha.2.1 HB.out.2.2.size (fun k hk => HB.out.2.1.block k hk)
    have HN := Lib.hid (And.intro hN hX7)
    clear hN hX7 ha
    go_wp2_with fail
    go_ret
    exact ⟨_, rfl, HN.out.1, HN.out.2⟩
end Go.Proofs.YthkbbcdnmdjhdaaGreat
