/-
  Look, Room, Offline, Fail, Wipe.
-/
import Derived.Test.YtnphkddhckcpmaaDkJ
namespace Go.Proofs.Ytnphkddhckcpmaa
open Go.RowKit Dk Go.WideShapes Go.ChangeMaps Go.MapKept
set_option maxRecDepth 100000
set_option maxHeartbeats 4000000
attribute [local go_sem] min_int2 max_int2 bstr_toList

theorem SimAt.lt' {w : World} {s : Nat} {fp : Option Nat} {d : DS} {S : Nat → Prop} (h : SimAt w s fp d S) : ∀ b, S b → b < w.heap.size := by obtain ⟨_, _, _, _, h3, _⟩ := h; exact h3
def LookOut (w : World) (d : DS) (p : Path) (e : Ending) (w' : World) : Prop :=
  ∃ u, e = .returned (.tuple #[u, .bool (match get p d.fs with | some f => f.sure | none => false), .bool (get p d.fs).isSome]) ∧ Own w' w.heap.size 5 u (bvs (match get p d.fs with | some f => f.b | none => [])) ∧ Ext w w'
theorem look_any (s : Nat) (fp : Option Nat) (d : DS) (S : Nat → Prop) (p : Path) (w : World) (h : SimAt w s fp d S) (hp : p.length ≤ maxLen) (ht : tot d.fs ≤ 1099511627776) :
    Calls Try.prog 29 #[.pointer (some ⟨s, 0, none⟩), .string (bstr p)] w (LookOut w d p) := by
  obtain ⟨m, es, h, -, -, -⟩ := h
  have c2 := h.row.cell (i := 2) (v := .map (some m)) rfl
  have hl := h.map.look p hp
  rw [qs_get] at hl
  cases hx : get p es with
  | none =>
    rw [hx] at hl
    have hf : get p d.fs = none := by rw [h.fs, fils_get, hx]; rfl
    have HF := Lib.hid hf
    clear hx hf h
    go_enter Try.func29, Try.ntmps29
    go_wp2_with fail
    go_ret3
    exact ⟨_, by rw [HF.out]; rfl, by rw [HF.out]; exact Own.nil _ _ _, Ext.refl _⟩
  | some x =>
    rw [hx] at hl
    have hf : get p d.fs = some x.f := by rw [h.fs, fils_get, hx]; rfl
    have hfile := h.file _ (get_mem hx)
    have c3 := hfile.1.cell (i := 0) (v := x.v) rfl
    have c4 := hfile.1.cell (i := 1) (v := .bool x.f.sure) rfl
    obtain ⟨xa, xc, hv⟩ := Own.slice' hfile.2
    rw [bvs_len] at hv
    have hlen : x.f.b.length ≤ 140737488351232 := by
      have h1 := tot_mem (l := d.fs) (e := (p, x.f)) (get_mem hf)
      have h2 : x.f.b.length ≤ tot d.fs := h1
      omega
    have HC := Lib.hid (And.intro hfile.2.cells hlen)
    rw [hv] at c3 HC
    have HF := Lib.hid hf
    clear hx hf h hfile hv hlen
    go_enter Try.func29, Try.ntmps29
    go_wp2_with fail
    have x0 : Ext w w.drew := Ext.of_drawn _ 1
    have S0 : (fun w' : World => w'.cell? ⟨x.q, 0, none⟩ = some (.slice xa x.f.b.length xc) ∧ w'.cell? ⟨x.q, 1, none⟩ = some (.bool x.f.sure)) w.drew := ⟨c3, c4⟩
    have CL : ∀ W, Ext w W → Calls Try.prog 38 #[.slice xa x.f.b.length xc] W fun e w5 => ∃ ua uc, e = .returned (.slice ua x.f.b.length uc) ∧ Hid (Own w5 w.heap.size 5 (.slice ua x.f.b.length uc) (bvs x.f.b) ∧ Ext w w5) ∧ (fun w' : World => w'.cell? ⟨x.q, 0, none⟩ = some (.slice xa x.f.b.length xc) ∧ w'.cell? ⟨x.q, 1, none⟩ = some (.bool x.f.sure)) w5 := fun W hW =>
      (bclone_own _ x.f.b HC.out.2 W (Cells.ext HC.out.1 hW)).mono fun e w5 ⟨u, h1, h2, h3⟩ => by
        obtain ⟨ua, uc, hu⟩ := Own.slice' h2
        rw [bvs_len] at hu
        subst hu
        exact ⟨ua, uc, h1, Lib.hid ⟨h2.mono hW.size, Ext.trans hW h3⟩, Ext.cell (Ext.trans hW h3) c3, Ext.cell (Ext.trans hW h3) c4⟩
    have CLH := Lib.hid CL
    clear CL
    go_region_held3 (fun w' : World => w'.cell? ⟨x.q, 0, none⟩ = some (.slice xa x.f.b.length xc) ∧ w'.cell? ⟨x.q, 1, none⟩ = some (.bool x.f.sure)) (first | assumption) (first | (go_at_call 38; refine (CLH.out _ x0).mono ?_; rintro e w5 ⟨ua, uc, rfl, hU, hS5⟩))
    clear S0 c3 c4 hS5
    go_wp2_with fail
    go_ret3
    exact ⟨_, by rw [HF.out]; rfl, by rw [HF.out]; exact hU.out.1, hU.out.2⟩
theorem FMap.clear {w : World} {m : Nat} {l : L Nat} (h : FMap w m l) (ty : TypeId) :
    ∃ w', (Builtin.clear_ #[75] ty #[.map (some m)]).run Try.prog w = .ok (.tuple #[]) w' ∧ FMap w' m [] ∧ w.grownBy w' (some m) ∧ w'.heap.size = w.heap.size := by
  obtain ⟨es, clock, hb, F, hs, hD⟩ := h
  refine ⟨setBlock w m (.map #[] clock), ?_, ⟨#[], clock, (heap_set hb).1, ⟨by simp, stamped_empty clock, by simp⟩, Nat.le_refl _, rfl⟩, ⟨rfl, rfl, rfl, by simp [setBlock], fun k _ hk => (heap_set hb).2 k (fun e => hk (by rw [e]))⟩, by simp [setBlock]⟩
  simp [Builtin.clear_, run_underlying Try.underlying75, MapKept.run_getObj_map hb, MapKept.run_setObj_map _ hb, Result.andThen, setBlock]
theorem wipe_any (s : Nat) (fp : Option Nat) (d : DS) (S : Nat → Prop) (w : World) (h : SimAt w s fp d S) :
    Calls Try.prog 21 #[.pointer (some ⟨s, 0, none⟩)] w fun e w' => e = .returned (.tuple #[]) ∧ SimAt w' s fp { d with fs := [] } S ∧ Chg S w w' := by
  obtain ⟨m, es, h, hS1, hS2, hS3⟩ := h
  have c2 := h.row.cell (i := 2) (v := .map (some m)) rfl
  obtain ⟨w1, hrun, hm, hg, -⟩ := h.map.clear 0
  have hc : Chg (fun b => b = m) w w1 := (Chg.refl _ w).grown hg (fun k hk => .inl (Option.some.inj hk).symm)
  have hr := h.remap (es' := []) hc hm Up.nil (by simp) (by simp)
  have hR := Lib.hid (And.intro hr (And.intro (show ∀ b, Foot s m [] b → S b from fun b hb => by
    rcases hb with hb | hb | ⟨e, he, -⟩
    · exact hS1 b (.inl hb)
    · exact hS1 b (.inr (.inl hb))
    · cases he) (And.intro (show ∀ b, S b → b < w1.heap.size from fun b hb => Nat.lt_of_lt_of_le (hS2 b hb) hc.size) (And.intro hS3 (hc.mono (T := S) fun b _ hb => by rw [hb]; exact hS1 _ (.inr (.inl rfl)))))))
  clear h hm hg hc hr hS1 hS2 hS3
  go_enter Try.func21, Try.ntmps21
  go_wp2_with fail
  go_end0
  exact ⟨rfl, ⟨m, [], hR.out.1, hR.out.2.1, hR.out.2.2.1, hR.out.2.2.2.1⟩, hR.out.2.2.2.2⟩
theorem offline_any (s : Nat) (fp : Option Nat) (d : DS) (S : Nat → Prop) (b : Bool) (w : World) (h : SimAt w s fp d S) :
    Calls Try.prog 30 #[.pointer (some ⟨s, 0, none⟩), .bool b] w fun e w' => e = .returned (.tuple #[]) ∧ SimAt w' s fp { d with off := b } S ∧ Chg S w w' := by
  obtain ⟨m, es, h, hS1, hS2, hS3⟩ := h
  have c3 := h.row.cell (i := 3) (v := .bool d.off) rfl
  have u3 := h.row.unfrozen 3
  have r2 := h.row.set 3 (.bool b)
  have hr := h.own (d' := { d with off := b }) 3 (.bool b) (by simpa using r2) rfl h.nb h.nm
  have hc : Chg S w (w.setCell ⟨s, 3, none⟩ (.bool b)) := (Chg.refl S w).at s 3 (.inl (hS1 _ (.inl rfl))) _
  have HN := Lib.hid (And.intro (show SimAt (w.setCell ⟨s, 3, none⟩ (.bool b)) s fp { d with off := b } S from ⟨m, es, hr, hS1, fun b hb => Nat.lt_of_lt_of_le (hS2 b hb) hc.size, hS3⟩) hc)
  clear h hS1 hS2 hS3 r2 hr hc
  go_enter Try.func30, Try.ntmps30
  go_wp2_with fail
  go_end0
  exact ⟨rfl, HN.out.1, HN.out.2⟩
theorem fail_any (s : Nat) (fp : Option Nat) (d : DS) (S : Nat → Prop) (n : Int) (hn : n ≤ 9223372036854775807) (w : World) (h : SimAt w s fp d S) :
    Calls Try.prog 28 #[.pointer (some ⟨s, 0, none⟩), .int .i64 n] w fun e w' => e = .returned (.tuple #[]) ∧ SimAt w' s fp { d with bad := n.toNat } S ∧ Chg S w w' := by
  obtain ⟨m, es, h, hS1, hS2, hS3⟩ := h
  obtain ⟨k, hk⟩ : ∃ k, n.toNat = k := ⟨_, rfl⟩
  have hmx : max n 0 = (k : Int) := by omega
  rw [hk]
  have c4 := h.row.cell (i := 4) (v := .int .i64 d.bad) rfl
  have u4 := h.row.unfrozen 4
  have r2 := h.row.set 4 (.int .i64 (k : Int))
  have hr := h.own (d' := { d with bad := k }) 4 (.int .i64 (k : Int)) (by simpa using r2) rfl (by show k ≤ _; omega) h.nm
  have hc : Chg S w (w.setCell ⟨s, 4, none⟩ (.int .i64 (k : Int))) := (Chg.refl S w).at s 4 (.inl (hS1 _ (.inl rfl))) _
  have HN := Lib.hid (And.intro (show SimAt (w.setCell ⟨s, 4, none⟩ (.int .i64 (k : Int))) s fp { d with bad := k } S from ⟨m, es, hr, hS1, fun b hb => Nat.lt_of_lt_of_le (hS2 b hb) hc.size, hS3⟩) hc)
  clear h hS1 hS2 hS3 r2 hr hc hk
  go_enter Try.func28, Try.ntmps28
  go_wp2_with fail
  go_end0
  exact ⟨rfl, HN.out.1, HN.out.2⟩
theorem sroom_any (s : Nat) (fp : Option Nat) (d : DS) (S : Nat → Prop) (w : World) (h : SimAt w s fp d S) (ht : tot d.fs ≤ 1099511627776) :
    Calls Try.prog 25 #[.pointer (some ⟨s, 0, none⟩)] w fun e w' => e = .returned (.int .i64 ((d.most : Int) - tot d.fs)) ∧ Ext w w' := by
  obtain ⟨m, es, h, -, -, -⟩ := h
  have H := Lib.hid h
  have c0 := h.row.cell (i := 0) (v := .int .i64 d.most) rfl
  have hm := h.nm
  obtain ⟨M, hM⟩ : ∃ M, d.most = M := ⟨_, rfl⟩
  obtain ⟨T, hT⟩ : ∃ T, tot d.fs = T := ⟨_, rfl⟩
  have USED : ∀ W, Ext w W → Calls Try.prog 24 #[.pointer (some ⟨s, 0, none⟩)] W fun e w' => e = .returned (.int .i64 (T : Int)) ∧ Hid (Ext w w') ∧ w'.cell? ⟨s, 0, none⟩ = some (.int .i64 (M : Int)) := fun W hW =>
    (used_any s m fp es d W (H.out.chg (Chg.of_ext hW (fun _ => False)) (fun _ _ h => h)) ht).mono fun e w' ⟨h1, h2⟩ => ⟨by rw [h1, hT], Lib.hid (Ext.trans hW h2), by
      have := (H.out.chg (Chg.of_ext (Ext.trans hW h2) (fun _ => False)) (fun _ _ h => h)).row.cell (i := 0) (v := .int .i64 d.most) rfl
      rw [hM] at this
      exact this⟩
  have USE := Lib.hid USED
  rw [hM] at c0 hm ⊢
  rw [hT] at ht ⊢
  have x0 : Ext w w.drew := Ext.of_drawn _ 1
  have c0d : w.drew.cell? ⟨s, 0, none⟩ = some (.int .i64 (M : Int)) := c0
  have e1 : IntKind.i64.wrap ((M : Int) - (T : Int)) = (M : Int) - (T : Int) := by rw [IntKind.wrap_i64]; omega
  clear USED hM hT h
  go_enter Try.func25, Try.ntmps25
  go_wp2_with fail
  go_region_held3 (fun w' : World => w'.cell? ⟨s, 0, none⟩ = some (.int .i64 (M : Int))) (assumption) (first | (go_at_call 24; refine (USE.out _ x0).mono ?_; rintro e w4 ⟨rfl, hx4, c4⟩))
  go_wp2_with fail
  go_ret
  exact ⟨rfl, hx4.out⟩
end Go.Proofs.Ytnphkddhckcpmaa
