/-
  New; Crash.
-/
import Derived.Test.YtnphkddhckcpmaaDkH
namespace Go.Proofs.Ytnphkddhckcpmaa
open Go.RowKit Dk Go.WideShapes Go.ChangeMaps Go.MapKept
set_option maxRecDepth 100000
set_option maxHeartbeats 4000000
attribute [local go_sem] min_int2 max_int2 bstr_toList

def mostOf (n : Int) : Nat := if n < 0 ∨ 4194304 < n then 0 else n.toNat
theorem new_any (n : Int) (fp : Option Nat) (w : World) (hf : ∀ b, fp = some b → b < w.heap.size) :
    Calls Try.prog 15 #[.int .i64 n, fptr fp] w fun e w' => e = .returned (.pointer (some ⟨w.heap.size + 1, 0, none⟩)) ∧ SimAt w' (w.heap.size + 1) fp ⟨mostOf n, false, 0, []⟩ (Grow (fun _ => False) w w') ∧ Ext w w' := by
  have hmm := @run_makeMap Try.prog
  have key : ∀ M : Nat, M ≤ 4194304 → SimAt ((w.alloc (.map #[] 0)).alloc (.cells #[.int .i64 M, fptr fp, .map (some w.heap.size), .bool false, .int .i64 0] 77)) (w.heap.size + 1) fp ⟨M, false, 0, []⟩ (Grow (fun _ => False) w ((w.alloc (.map #[] 0)).alloc (.cells #[.int .i64 M, fptr fp, .map (some w.heap.size), .bool false, .int .i64 0] 77))) := fun M hM => by
    have hs : (w.alloc (.map #[] 0)).heap.size = w.heap.size + 1 := by simp
    have hr := Row.new (w.alloc (.map #[] 0)) 77 #[.int .i64 M, fptr fp, .map (some w.heap.size), .bool false, .int .i64 0]
    rw [hs] at hr
    have hm : FMap ((w.alloc (.map #[] 0)).alloc (.cells #[.int .i64 M, fptr fp, .map (some w.heap.size), .bool false, .int .i64 0] 77)) w.heap.size [] := (FMap.made w).chg (Chg.of_ext ((Ext.refl _).alloc (Nat.le_refl _) _) (fun _ => False)) (fun h => h)
    refine ⟨w.heap.size, [], ⟨hr, hm, Up.nil, by simp, by simp, rfl, by simp, hM⟩, fun b hb => ?_, fun b hb => ?_, fun b hb hg => ?_⟩
    · rcases hb with rfl | rfl | ⟨e, he, -⟩
      · exact .inr ⟨by omega, by simp⟩
      · exact .inr ⟨Nat.le_refl _, by simp; omega⟩
      · cases he
    · rcases hb with hb | hb
      · exact hb.elim
      · exact hb.2
    · have := hf b hb
      rcases hg with hg | hg
      · exact hg
      · omega
  have HK := Lib.hid key
  have hx : ∀ o o' : Obj, Ext w ((w.alloc o).alloc o') := fun o o' => ((Ext.refl w).alloc (Nat.le_refl _) o).alloc (by simp) o'
  have HX := Lib.hid hx
  clear key hx
  obtain ⟨ad, hfp⟩ : ∃ ad, fptr fp = .pointer ad := ⟨_, rfl⟩
  rw [hfp] at HK ⊢
  have HF := Lib.hid hfp
  clear hfp hf
  by_cases h0 : n < 0
  · have HM : Hid (mostOf n = 0) := Lib.hid (by unfold mostOf; rw [if_pos (.inl h0)])
    go_enter Try.func15, Try.ntmps15
    go_wp2_with fail
    go_ret
    rw [HM.out]
    exact ⟨rfl, HK.out 0 (by omega), HX.out _ _⟩
  · have h0' : 0 ≤ n := by omega
    by_cases h1 : 4194304 < n
    · have HM : Hid (mostOf n = 0) := Lib.hid (by unfold mostOf; rw [if_pos (.inr h1)])
      clear h0
      go_enter Try.func15, Try.ntmps15
      go_wp2_with fail
      go_ret
      rw [HM.out]
      exact ⟨rfl, HK.out 0 (by omega), HX.out _ _⟩
    · have h1' : n ≤ 4194304 := by omega
      obtain ⟨M, rfl⟩ := Int.eq_ofNat_of_zero_le h0'
      have HM : Hid (mostOf (M : Int) = M) := Lib.hid (by unfold mostOf; rw [if_neg (by omega)]; simp)
      clear h0 h1
      go_enter Try.func15, Try.ntmps15
      go_wp2_with fail
      go_ret
      rw [HM.out]
      exact ⟨rfl, HK.out M (by omega), HX.out _ _⟩
namespace Dk
def cutf (k : Nat) (f : Fil) : Fil := if f.sure then f else ⟨f.b.take (k % (f.b.length + 1)), true⟩
def DS.crash (k : Int) (d : DS) : DS := { d with fs := mapv (cutf k.toNat) d.fs }
end Dk
def cutv (v : Value) (n : Nat) : Value := match v with
  | .slice a _ c => .slice a n c
  | v => v
def cute (k : Nat) (e : Ent) : Ent := if e.f.sure then e else ⟨e.q, cutv e.v (k % (e.f.b.length + 1)), cutf k e.f⟩
/-- Those that have come are cut. -/
def mixe (k : Nat) (left : Lit → Bool) (es : L Ent) : L Ent := es.map fun e => (e.1, if left (.string e.1) then e.2 else cute k e.2)
theorem cute_q (k : Nat) (e : Ent) : (cute k e).q = e.q := by unfold cute; split <;> rfl
theorem cute_f (k : Nat) (e : Ent) : (cute k e).f = cutf k e.f := by
  unfold cute
  split
  · rename_i h; unfold cutf; rw [if_pos h]
  · rfl
theorem mixe_get (k : Nat) (left : Lit → Bool) (es : L Ent) (p : Path) : get p (mixe k left es) = (get p es).map fun e => if left (.string p) then e else cute k e := by
  induction es with
  | nil => rfl
  | cons e es ih =>
    show get p ((e.1, _) :: mixe k left es) = _
    rw [get_cons, get_cons, ih]
    by_cases h : e.1 = p
    · rw [if_pos h, if_pos h, ← h]; rfl
    · rw [if_neg h, if_neg h]
theorem mixe_up {k : Nat} {left : Lit → Bool} {es : L Ent} (h : Up es) : Up (mixe k left es) := by
  unfold mixe
  exact List.pairwise_map.2 h
theorem mixe_qs (k : Nat) (left : Lit → Bool) (es : L Ent) : qs (mixe k left es) = qs es := by
  show List.map _ (List.map _ _) = List.map _ _
  rw [List.map_map]
  apply List.map_congr_left
  intro e _
  show (e.1, _) = (e.1, _)
  congr 1
  show (if left (.string e.1) then e.2 else cute k e.2).q = e.2.q
  split
  · rfl
  · exact cute_q _ _
theorem mixe_step {k : Nat} {left : Lit → Bool} {es : L Ent} {p : Path} {x : Ent} (hu : Up es) (hx : get p es = some x) : put p (cute k x) (mixe k left es) = mixe k (strike left p) es := by
  refine get_ext (put_up (mixe_up hu)) (mixe_up hu) fun q => ?_
  rw [get_put (mixe_up hu), mixe_get, mixe_get]
  by_cases e : p = q
  · subst e
    rw [if_pos rfl, hx]
    have : strike left p (.string p) = false := by unfold strike; rw [same_str]; simp
    rw [this]; rfl
  · rw [if_neg e]
    have : strike left p (.string q) = left (.string q) := by
      unfold strike
      have h2 : ((Lit.string q).sameKey (.string p)) = false := by rw [same_str]; simpa using fun h => e h.symm
      rw [h2]; simp
    rw [this]
theorem mixe_start {k : Nat} {es : L Ent} (hu : Up es) : mixe k (allLeft (qs es)) es = es := by
  refine get_ext (mixe_up hu) hu fun q => ?_
  rw [mixe_get]
  cases h : get q es with
  | none => rfl
  | some x =>
    have : allLeft (qs es) (.string q) = true := by rw [allLeft_iff, qs_get, h]; rfl
    rw [this]; rfl
theorem mixe_end {k : Nat} {left : Lit → Bool} {es : L Ent} (h : ∀ p, left (.string p) = false) : fils (mixe k left es) = mapv (cutf k) (fils es) := by
  show List.map _ (List.map _ _) = List.map _ (List.map _ _)
  rw [List.map_map, List.map_map]
  apply List.map_congr_left
  intro e _
  show (e.1, _) = (e.1, _)
  congr 1
  show (if left (.string e.1) then e.2 else cute k e.2).f = cutf k e.2.f
  rw [h, if_neg (by simp), cute_f]
theorem mixe_foot {k : Nat} {left : Lit → Bool} {es : L Ent} {s m b : Nat} (h : Foot s m (mixe k left es) b) : Foot s m es b := by
  refine Foot.sub (fun e he => ?_) h
  obtain ⟨x, hx, rfl⟩ := List.mem_map.1 he
  refine ⟨x, hx, ?_, ?_⟩
  · show x.2.q = (if left (.string x.1) then x.2 else cute k x.2).q
    split
    · rfl
    · exact (cute_q _ _).symm
  · show (if left (.string x.1) then x.2 else cute k x.2).v.ownBlock = x.2.v.ownBlock ∨ _
    split
    · exact .inl rfl
    · left
      unfold cute
      split
      · rfl
      · show (cutv x.2.v _).ownBlock = x.2.v.ownBlock
        unfold cutv
        split
        · rename_i a n c hv
          rw [hv]; cases a <;> rfl
        · rfl
/-- A beginning of what is owned is owned. -/
theorem Own.cut {w : World} {B : Nat} {e : TypeId} {a : Option Addr} {n c n' : Nat} {l : List UInt8} {k : Nat} (h : Own w B e (.slice a n c) (bvs l)) (hn : n' = (bvs (l.take k)).length) : Own w B e (.slice a n' c) (bvs (l.take k)) := by
  subst hn
  have hle : (bvs (l.take k)).length ≤ (bvs l).length := by rw [bvs_len, bvs_len, List.length_take]; omega
  rcases h.forms with ⟨h1, h2⟩ | ⟨g, cap, cur, h1, h2, hr, hl, hs, ht, h5⟩
  · simp only [Value.slice.injEq] at h1
    obtain ⟨rfl, rfl, rfl⟩ := h1
    have hl0 : l = [] := List.map_eq_nil_iff.1 h2
    subst hl0
    simpa using Own.nil w B e
  · simp only [Value.slice.injEq] at h1
    obtain ⟨rfl, -, rfl⟩ := h1
    refine Own.mk h2 hr (by omega) hs ?_ h5
    have e1 : bvs (l.take k) = (bvs l).take k := List.map_take
    have e2 : (bvs (l.take k)).length = min k (bvs l).length := by rw [e1, List.length_take]
    rw [e2, e1, ← List.take_take, ht]
theorem crash_any (s : Nat) (fp : Option Nat) (d : DS) (S : Nat → Prop) (keep : Int) (hk : -9223372036854775808 ≤ keep ∧ keep ≤ 9223372036854775807) (w : World) (h : SimAt w s fp d S) (ht : tot d.fs ≤ 1099511627776) :
    Calls Try.prog 33 #[.pointer (some ⟨s, 0, none⟩), .int .i64 keep] w fun e w' => e = .returned (.tuple #[]) ∧ SimAt w' s fp (d.crash keep) S ∧ Chg S w w' := by
  obtain ⟨m, es, h, hS1, hS2, hS3⟩ := h
  have H := Lib.hid h
  have HS := Lib.hid (And.intro hS1 (And.intro hS2 hS3))
  obtain ⟨k, hkk⟩ : ∃ k : Nat, keep.toNat = k := ⟨_, rfl⟩
  have hmx : max keep 0 = (k : Int) := by omega
  have hkb : k ≤ 9223372036854775807 := by omega
  have HD : Hid (d.crash keep = { d with fs := mapv (cutf k) d.fs }) := Lib.hid (by unfold DS.crash; rw [hkk])
  have HMX := Lib.hid hmx
  have c2 := h.row.cell (i := 2) (v := .map (some m)) rfl
  obtain ⟨w1, hrun, hR, hX, -⟩ := FRange.start h.map
  obtain ⟨r, hr⟩ : ∃ r, w.heap.size = r := ⟨_, rfl⟩
  rw [hr] at hrun hR
  have h1 := h.chg (Chg.of_ext hX (fun _ => False)) (fun _ _ h => h)
  have HR := Lib.hid (And.intro hR (And.intro (show Raw w1 s fp m (mixe k (allLeft (qs es)) es) { d with fs := fils (mixe k (allLeft (qs es)) es) } by rw [mixe_start h.up, ← h.fs]; exact h1) (Chg.of_ext hX S)))
  have HRR := Lib.hid hr
  clear h hR hX hr h1 hS1 hS2 hS3 hkk hmx hk
  go_enter Try.func33, Try.ntmps33
  go_wp2_with fail
  clear hrun c2
  go_loopw [] (fun wr => ∃ (left : Lit → Bool) (cnt : Nat), Hid (FRange wr m r (qs es) left cnt) ∧ Hid (Raw wr s fp m (mixe k left es) { d with fs := fils (mixe k left es) } ∧ Chg S w wr)) (fun wr => wr.rangeLeft m r)
  case atStart => exact ⟨_, _, Lib.hid HR.out.1, Lib.hid HR.out.2⟩
  case round =>
    obtain ⟨left, cnt, hF, hE⟩ := hrel
    have hml : wr.rangeLeft m r = cnt := World.ranges.left_eq hF.out
    rcases hF.out.next 0 with ⟨hl, hrun⟩ | ⟨p, q, w2, cnt', hg, hl, hpl, hrun, hF2, hlt, hg2, hsz, hen⟩
    · have HN : Hid (SimAt wr s fp (d.crash keep) S) := Lib.hid (by
        rw [HD.out, H.out.fs, ← mixe_end hl]
        exact ⟨m, _, hE.out.1, fun b hb => HS.out.1 b (mixe_foot hb), fun b hb => Nat.lt_of_lt_of_le (HS.out.2.1 b hb) hE.out.2.size, HS.out.2.2⟩)
      clear hl hml
      go_wp2_with fail
      go_end0
      exact ⟨rfl, HN.out, hE.out.2⟩
    · rw [qs_get] at hg
      cases hx : get p es with
      | none => rw [hx] at hg; cases hg
      | some x =>
        rw [hx] at hg
        simp only [Option.map_some, Option.some.injEq] at hg
        subst hg
        have hxm : get p (mixe k left es) = some x := by rw [mixe_get, hx, hl]; rfl
        have hrS : ¬ S r := fun hs => by have := HS.out.2.1 r hs; have := HRR.out; omega
        have hR2 := hE.out.1.chg hg2 (fun b hb e => hrS (by rw [← e]; exact HS.out.1 b (mixe_foot hb)))
        have hG2 : Chg S w w2 := hE.out.2.then (hg2.mono fun b _ hb => .inr (by rw [hb]; exact ⟨by rw [HRR.out]; exact Nat.le_refl _, hF.out.lt⟩))
        have hfile := hR2.file _ (get_mem hxm)
        have c0 := hfile.1.cell (i := 0) (v := x.v) rfl
        have c1 := hfile.1.cell (i := 1) (v := .bool x.f.sure) rfl
        have u0 := hfile.1.unfrozen 0
        have u1 := hfile.1.unfrozen 1
        obtain ⟨xa, xc, hv⟩ := Own.slice' hfile.2
        rw [bvs_len] at hv
        obtain ⟨L, hL⟩ : ∃ L, x.f.b.length = L := ⟨_, rfl⟩
        rw [hL] at hv
        rw [hv] at c0
        cases hsu : x.f.sure with
        | true =>
          rw [hsu] at c1
          have e1 : cute k x = x := by unfold cute; rw [if_pos hsu]
          have e2 : mixe k (strike left p) es = mixe k left es := by rw [← mixe_step H.out.up hx, e1, put_same (mixe_up H.out.up) hxm]
          have HN := Lib.hid (And.intro hF2 (And.intro (And.intro (show Raw w2 s fp m (mixe k (strike left p) es) { d with fs := fils (mixe k (strike left p) es) } by rw [e2]; exact hR2) hG2) (And.intro hlt hml)))
          clear hxm hrS hR2 hG2 hfile hv hsu e1 e2 hF2 hlt hg2 hsz hl hpl hx c0 hL hml
          go_wp2_with fail
          exact ⟨⟨_, _, Lib.hid HN.out.1, Lib.hid HN.out.2.1⟩, by rw [World.ranges.left_eq HN.out.1, HN.out.2.2.2]; exact HN.out.2.2.1⟩
        | false =>
          rw [hsu] at c1
          obtain ⟨n1, hn1⟩ : ∃ n1, k % (L + 1) = n1 := ⟨_, rfl⟩
          have hn1L : n1 ≤ L := by have := Nat.mod_lt k (show 0 < L + 1 by omega); omega
          have hLb : L ≤ 1099511627776 := by
            have h1 := tot_mem (l := d.fs) (e := (p, x.f)) (get_mem (by rw [H.out.fs, fils_get, hx]; rfl))
            have h2 : x.f.b.length ≤ tot d.fs := h1
            omega
          have hLc : L ≤ xc := by
            obtain ⟨a', c', e, hc', -⟩ := hfile.2.cells
            rw [hv] at e
            simp only [Value.slice.injEq] at e
            obtain ⟨-, h5, h6⟩ := e
            rw [h6, h5]; exact hc'
          have em1 : ((k : Int)).tmod ((L : Int) + 1) = (n1 : Int) := by rw [← hn1]; exact (Int.ofNat_tmod k (L + 1)).symm
          have em2 : (k : Int) % ((L : Int) + 1) = (n1 : Int) := by rw [← hn1]; norm_cast
          have ew : IntKind.i64.wrap ((L : Int) + 1) = (L : Int) + 1 := by rw [IntKind.wrap_i64]; omega
          have hce : cute k x = ⟨x.q, .slice xa n1 xc, ⟨x.f.b.take n1, true⟩⟩ := by
            unfold cute cutf
            rw [if_neg (by rw [hsu]; simp), if_neg (by rw [hsu]; simp), hL, hn1, hv]; rfl
          have hcw : Chg (fun b => b = x.q) w2 ((w2.drew.setCell ⟨x.q, 0, none⟩ (.slice xa n1 xc)).setCell ⟨x.q, 1, none⟩ (.bool true)) := ((((Chg.refl (fun b => b = x.q) w2).drew).at x.q 0 (.inl rfl) _).at x.q 1 (.inl rfl) _)
          have hrow : Row ((w2.drew.setCell ⟨x.q, 0, none⟩ (.slice xa n1 xc)).setCell ⟨x.q, 1, none⟩ (.bool true)) x.q 82 #[.slice xa n1 xc, .bool true] := by
            have := (hfile.1.drew.set 0 (.slice xa n1 xc)).set 1 (.bool true)
            simpa using this
          have hown : Own ((w2.drew.setCell ⟨x.q, 0, none⟩ (.slice xa n1 xc)).setCell ⟨x.q, 1, none⟩ (.bool true)) 0 5 (.slice xa n1 xc) (bvs (x.f.b.take n1)) := by
            have ho := hfile.2.chg hcw (fun b hb e1 => hfile.2.ne hfile.1 (fun x => ty_file_byte x.symm) (by rw [hb, e1]))
            rw [hv] at ho
            exact ho.cut (by rw [bvs_len, List.length_take, hL]; omega)
          have hob : (Value.slice xa n1 xc).ownBlock = x.v.ownBlock := by rw [hv]; cases xa <;> rfl
          have hturn := hR2.turn hxm (v' := .slice xa n1 xc) (f' := ⟨x.f.b.take n1, true⟩) hcw hrow (.inl hob) hown
          rw [← hce, mixe_step H.out.up hx] at hturn
          have hfs : Dk.put p ⟨x.f.b.take n1, true⟩ (fils (mixe k left es)) = fils (mixe k (strike left p) es) := by
            rw [← mixe_step (k := k) (left := left) H.out.up hx, hce]
            exact put_mapv (fun x : Ent => x.f) p ⟨x.q, .slice xa n1 xc, ⟨x.f.b.take n1, true⟩⟩ _
          have hturn2 : Raw ((w2.drew.setCell ⟨x.q, 0, none⟩ (.slice xa n1 xc)).setCell ⟨x.q, 1, none⟩ (.bool true)) s fp m (mixe k (strike left p) es) { d with fs := fils (mixe k (strike left p) es) } := by
            rw [← hfs]; exact hturn
          have hqm : ¬ (m = x.q) := fun e => hR2.map.ne hfile.1 e.symm
          have hqr : ¬ (r = x.q) := fun e => hF2.ne hfile.1 e.symm
          have GD : Hid ((fun w8 : World => FRange w8 m r (qs es) (strike left p) cnt' ∧ Raw w8 s fp m (mixe k (strike left p) es) { d with fs := fils (mixe k (strike left p) es) } ∧ Chg S w w8) ((w2.drew.setCell ⟨x.q, 0, none⟩ (.slice xa n1 xc)).setCell ⟨x.q, 1, none⟩ (.bool true))) := Lib.hid ⟨hF2.chg hcw hqm hqr, hturn2, hG2.trans (hcw.mono fun b _ hb => by rw [hb]; exact HS.out.1 _ (mixe_foot (.inr (.inr ⟨_, get_mem hxm, .inl rfl⟩))))⟩
          have hS : (fun w' : World => w'.cell? ⟨x.q, 0, none⟩ = some (.slice xa L xc) ∧ w'.cell? ⟨x.q, 1, none⟩ = some (.bool false)) w2.drew := ⟨c0, c1⟩
          have hlS : ∀ wl : World, (fun w' : World => w'.cell? ⟨x.q, 0, none⟩ = some (.slice xa L xc) ∧ w'.cell? ⟨x.q, 1, none⟩ = some (.bool false)) wl → wl.cell? ⟨x.q, 0, none⟩ = some (.slice xa L xc) ∧ wl.cell? ⟨x.q, 1, none⟩ = some (.bool false) ∧ True ∧ True := fun wl h => ⟨h.1, h.2, trivial, trivial⟩
          have HLT := Lib.hid (And.intro hlt hml)
          have b0 : 0 ≤ (n1 : Int) := by omega
          have b1 : (n1 : Int) ≤ (L : Int) := by omega
          have b2 : (n1 : Int) ≤ (xc : Int) := by omega
          have hmx := HMX.out
          have hnz : ¬ ((L : Int) + 1 = 0) := by omega
          clear hxm hrS hR2 hG2 hfile hv hsu hF2 hlt hg2 hsz hl hpl hx hL hn1 hcw hrow hown hob hturn hfs hturn2 hqm hqr hce hml
          go_wp2_with fail
          refine wp_cut [22, 23, 24, 25, 26, 27, 28, 29, 30, 31, 32, 33, 34, 35, 36, 37, 38, 39, 40, 41] (fun w8 : World => FRange w8 m r (qs es) (strike left p) cnt' ∧ Raw w8 s fp m (mixe k (strike left p) es) { d with fs := fils (mixe k (strike left p) es) } ∧ Chg S w w8) ?_ ?_
          · refine wp_region_U (fun w' : World => w'.cell? ⟨x.q, 0, none⟩ = some (.slice xa L xc) ∧ w'.cell? ⟨x.q, 1, none⟩ = some (.bool false)) 18 (by kernel_rfl) ?_
            refine wpU_pure (i := 0) (v := ?_) rfl (by kernel_rfl) (by kernel_rfl) (by kernel_rfl) (by decide) (fun _ _ _ h => h) (fun _ => hS) (Or.inl ⟨by rfl, fun _ _ => ?_⟩) ?_
            rotate_left
            · go_simp
              try with_reducible rfl
            try simp only [Act.put]
            refine wpU_pure (i := 1) (v := ?_) rfl (by kernel_rfl) (by kernel_rfl) (by kernel_rfl) (by decide) (fun _ _ _ h => h) (fun _ => hS) (Or.inl ⟨by rfl, fun _ _ => ?_⟩) ?_
            rotate_left
            · go_simp
              try with_reducible rfl
            try simp only [Act.put]
            refine wpU_pure (i := 2) (v := ?_) rfl (by kernel_rfl) (by kernel_rfl) (by kernel_rfl) (by decide) (fun _ _ _ h => h) (fun _ => hS) (Or.inl ⟨by rfl, fun _ _ => ?_⟩) ?_
            rotate_left
            · go_simp
              try with_reducible rfl
            try simp only [Act.put]
            refine wpU_pure (i := 3) (v := ?_) rfl (by kernel_rfl) (by kernel_rfl) (by kernel_rfl) (by decide) (fun _ _ _ h => h) (fun _ => hS) (Or.inl ⟨by rfl, fun _ _ => ?_⟩) ?_
            rotate_left
            · go_simp
              try with_reducible rfl
            try simp only [Act.put]
            refine wpU_pure (i := 4) (v := ?_) rfl (by kernel_rfl) (by kernel_rfl) (by kernel_rfl) (by decide) (fun _ _ _ h => h) (fun _ => hS) (Or.inl ⟨by rfl, fun _ _ => ?_⟩) ?_
            rotate_left
            · go_simp
              try with_reducible rfl
            try simp only [Act.put]
            refine wpU_load (i := 5) (v := ?_) rfl (by kernel_rfl) (by kernel_rfl) (by kernel_rfl) (by decide) (by kernel_rfl) (by kernel_rfl) (fun _ _ _ h => h) hS (Or.inl ⟨by rfl, fun wl hl => ?_⟩) ?_
            rotate_left
            · have hl2 := hlS wl hl
              obtain ⟨l1, l2, l3, l4⟩ := hl2
              go_simp
              try with_reducible rfl
            try simp only [Act.put]
            refine wpU_pure (i := 6) (v := ?_) rfl (by kernel_rfl) (by kernel_rfl) (by kernel_rfl) (by decide) (fun _ _ _ h => h) (fun _ => hS) (Or.inl ⟨by rfl, fun _ _ => ?_⟩) ?_
            rotate_left
            · go_simp
              try with_reducible rfl
            try simp only [Act.put]
            refine wpU_pure (i := 7) (v := ?_) rfl (by kernel_rfl) (by kernel_rfl) (by kernel_rfl) (by decide) (fun _ _ _ h => h) (fun _ => hS) (Or.inl ⟨by rfl, fun _ _ => ?_⟩) ?_
            rotate_left
            · go_simp
              try with_reducible rfl
            try simp only [Act.put]
            refine wpU_pure (i := 8) (v := ?_) rfl (by kernel_rfl) (by kernel_rfl) (by kernel_rfl) (by decide) (fun _ _ _ h => h) (fun _ => hS) (Or.inl ⟨by rfl, fun _ _ => ?_⟩) ?_
            rotate_left
            · go_simp
              try with_reducible rfl
            try simp only [Act.put]
            refine wpU_pure (i := 9) (v := ?_) rfl (by kernel_rfl) (by kernel_rfl) (by kernel_rfl) (by decide) (fun _ _ _ h => h) (fun _ => hS) (Or.inl ⟨by rfl, fun _ _ => ?_⟩) ?_
            rotate_left
            · go_simp
              try with_reducible rfl
            try simp only [Act.put]
            refine wpU_pure (i := 10) (v := ?_) rfl (by kernel_rfl) (by kernel_rfl) (by kernel_rfl) (by decide) (fun _ _ _ h => h) (fun _ => hS) (Or.inl ⟨by rfl, fun _ _ => ?_⟩) ?_
            rotate_left
            · go_simp
              try with_reducible rfl
            try simp only [Act.put]
            refine wpU_load (i := 11) (v := ?_) rfl (by kernel_rfl) (by kernel_rfl) (by kernel_rfl) (by decide) (by kernel_rfl) (by kernel_rfl) (fun _ _ _ h => h) hS (Or.inl ⟨by rfl, fun wl hl => ?_⟩) ?_
            rotate_left
            · have hl2 := hlS wl hl
              obtain ⟨l1, l2, l3, l4⟩ := hl2
              go_simp
              try with_reducible rfl
            try simp only [Act.put]
            refine wpU_pure (i := 12) (v := ?_) rfl (by kernel_rfl) (by kernel_rfl) (by kernel_rfl) (by decide) (fun _ _ _ h => h) (fun _ => hS) (Or.inl ⟨by rfl, fun _ _ => ?_⟩) ?_
            rotate_left
            · go_simp
              try with_reducible rfl
            try simp only [Act.put]
            refine wpU_pure (i := 13) (v := ?_) rfl (by kernel_rfl) (by kernel_rfl) (by kernel_rfl) (by decide) (fun _ _ _ h => h) (fun _ => hS) (Or.inl ⟨by rfl, fun _ _ => ?_⟩) ?_
            rotate_left
            · go_simp
              try with_reducible rfl
            try simp only [Act.put]
            refine wpU_pure (i := 14) (v := ?_) rfl (by kernel_rfl) (by kernel_rfl) (by kernel_rfl) (by decide) (fun _ _ _ h => h) (fun _ => hS) (Or.inl ⟨by rfl, fun _ _ => ?_⟩) ?_
            rotate_left
            · go_simp
              try with_reducible rfl
            try simp only [Act.put]
            refine wpU_pure (i := 15) (v := ?_) rfl (by kernel_rfl) (by kernel_rfl) (by kernel_rfl) (by decide) (fun _ _ _ h => h) (fun _ => hS) (Or.inl ⟨by rfl, fun _ _ => ?_⟩) ?_
            rotate_left
            · go_simp
              try with_reducible rfl
            try simp only [Act.put]
            refine wpU_pure (i := 16) (v := ?_) rfl (by kernel_rfl) (by kernel_rfl) (by kernel_rfl) (by decide) (fun _ _ _ h => h) (fun _ => hS) (Or.inl ⟨by rfl, fun _ _ => ?_⟩) ?_
            rotate_left
            · go_simp
              try with_reducible rfl
            try simp only [Act.put]
            refine wpU_pure (i := 17) (v := ?_) rfl (by kernel_rfl) (by kernel_rfl) (by kernel_rfl) (by decide) (fun _ _ _ h => h) (fun _ => hS) (Or.inl ⟨by rfl, fun _ _ => ?_⟩) ?_
            rotate_left
            · go_simp
              try with_reducible rfl
            try simp only [Act.put]
            refine wpU_all [18] (by kernel_rfl) (by simp) ?_
            refine ReadyU.cons rfl (fun K hK => ?_) (ReadyU.nil)
            go_simp
            refine hK.out _ _ (fun h => Bool.noConfusion (show true = false from h)) ?_
            clear hK K
            refine wpU_pure (i := 19) (v := ?_) rfl (by kernel_rfl) (by kernel_rfl) (by kernel_rfl) (by decide) (fun _ _ _ h => h) (fun h => Bool.noConfusion (show true = false from h)) (Or.inl ⟨by rfl, fun _ _ => ?_⟩) ?_
            rotate_left
            · go_simp
              try with_reducible rfl
            try simp only [Act.put]
            refine wpU_pure (i := 20) (v := ?_) rfl (by kernel_rfl) (by kernel_rfl) (by kernel_rfl) (by decide) (fun _ _ _ h => h) (fun h => Bool.noConfusion (show true = false from h)) (Or.inl ⟨by rfl, fun _ _ => ?_⟩) ?_
            rotate_left
            · go_simp
              try with_reducible rfl
            try simp only [Act.put]
            refine wpU_all [21] (by kernel_rfl) (by simp) ?_
            refine ReadyU.cons rfl (fun K hK => ?_) (ReadyU.nil)
            go_simp
            refine hK.out _ _ (fun h => Bool.noConfusion (show true = false from h)) ?_
            clear hK K
            refine wpU_done (by kernel_rfl) ?_ _
            exact cut_end GD.out (by kernel_rfl)
          · intro us w8 h8
            have H8 := Lib.hid h8
            clear h8 c0 c1 u0 u1 hS hlS hmx em1 em2 ew hnz
            simp only [setAll, List.foldl_cons, List.foldl_nil, List.set_cons_zero, List.set_cons_succ]
            go_wp2_with fail
            exact ⟨⟨_, _, Lib.hid H8.out.1, Lib.hid H8.out.2⟩, by rw [World.ranges.left_eq H8.out.1, HLT.out.2]; exact HLT.out.1⟩
end Go.Proofs.Ytnphkddhckcpmaa
