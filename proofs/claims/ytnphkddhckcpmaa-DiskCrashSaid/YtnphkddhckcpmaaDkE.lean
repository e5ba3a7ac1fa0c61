/-
  A range over a disk's files; Used; bytes.Clone.
-/
import Derived.Test.YtnphkddhckcpmaaDkD
namespace Go.Proofs.Ytnphkddhckcpmaa
open Go.RowKit Dk Go.WideShapes Go.ChangeMaps Go.MapKept
set_option maxRecDepth 100000
set_option maxHeartbeats 4000000
attribute [local go_sem] min_int2 max_int2 bstr_toList

theorem info_u8' : (Try.prog.info? 5).map (fun i => (i.zero, i.size, i.bytes)) = some (some (.int .u8 0), 1, 1) := by kernel_rfl
/-- A range over the map in block m is under way, its iterator in block r; left tells which are still to come. -/
def FRange (w : World) (m r : Nat) (l : L Nat) (left : Lit → Bool) (cnt : Nat) : Prop := w.ranges Try.prog 9 Rq m r l.length (Dm l) left cnt
def allLeft (l : L Nat) : Lit → Bool := Maps.has (Dm l)
def strike (left : Lit → Bool) (p : Path) : Lit → Bool := fun z => left z && !z.sameKey (.string p)
theorem FRange.start {w : World} {m : Nat} {l : L Nat} (h : FMap w m l) : ∃ w', (Instr.range 75 (.map (some m))).run Try.prog w = .ok (.pointer (some ⟨w.heap.size, 0, none⟩)) w' ∧ FRange w' m w.heap.size l (allLeft l) l.length ∧ Ext w w' ∧ w'.heap.size = w.heap.size + 1 := by
  obtain ⟨w', h1, h2, h3, h4⟩ := World.ownsMap.range h kstr Try.underlying75
  rw [Dm_size] at h2
  exact ⟨w', h1, h2, Ext.grown h3 (fun k hk => by cases hk), h4⟩
theorem allLeft_iff (l : L Nat) (p : Path) : allLeft l (.string p) = (get p l).isSome := Dm_has l p
theorem FRange.map {w : World} {m r : Nat} {l : L Nat} {left : Lit → Bool} {cnt : Nat} (h : FRange w m r l left cnt) : FMap w m l := World.ranges.owns h
theorem FRange.lt {w : World} {m r : Nat} {l : L Nat} {left : Lit → Bool} {cnt : Nat} (h : FRange w m r l left cnt) : r < w.heap.size := World.ranges.lt h
theorem FRange.blk {w : World} {m r : Nat} {l : L Nat} {left : Lit → Bool} {cnt : Nat} (h : FRange w m r l left cnt) : ∃ a b c d, w.heap[r]? = some (.mapIter a b c d) := by
  obtain ⟨es, clock, since, seen, c0, _, _, _, _, hr, _⟩ := h
  exact ⟨_, _, _, _, hr⟩
theorem FRange.ne {w : World} {m r b : Nat} {l : L Nat} {left : Lit → Bool} {cnt : Nat} {e : TypeId} {cs : Array Value} (h : FRange w m r l left cnt) (k : Row w b e cs) : b ≠ r := fun x => by
  subst x
  obtain ⟨_, _, _, _, hb⟩ := h.blk
  unfold Row at k
  rw [hb] at k; cases k
theorem FRange.chg {S : Nat → Prop} {w w' : World} {m r : Nat} {l : L Nat} {left : Lit → Bool} {cnt : Nat} (h : FRange w m r l left cnt) (k : Chg S w w') (hm : ¬ S m) (hr : ¬ S r) : FRange w' m r l left cnt := by
  have h1 := h.map.lt
  have h2 := h.lt
  obtain ⟨es, clock, since, seen, c0, hb, F, hs, hD, hi, rest⟩ := h
  exact ⟨es, clock, since, seen, c0, (k.block m h1 hm).trans hb, F, hs, hD, (k.block r h2 hr).trans hi, rest⟩
theorem FRange.next {w : World} {m r : Nat} {l : L Nat} {left : Lit → Bool} {cnt : Nat} (h : FRange w m r l left cnt) (ty : TypeId) :
    ((∀ p, left (.string p) = false) ∧ (Instr.next (.pointer (some ⟨r, 0, none⟩)) false ty).run Try.prog w = .ok (.tuple #[.bool false]) w) ∨
    ∃ p q w' cnt', get p l = some q ∧ left (.string p) = true ∧ p.length ≤ maxLen ∧ (Instr.next (.pointer (some ⟨r, 0, none⟩)) false ty).run Try.prog w = .ok (.tuple #[.bool true, .string (bstr p), .pointer (some ⟨q, 0, none⟩)]) w' ∧
      FRange w' m r l (strike left p) cnt' ∧ cnt' < cnt ∧ Chg (fun b => b = r) w w' ∧ w'.heap.size = w.heap.size ∧ (Instr.entry (.pointer (some ⟨r, 0, none⟩))).run Try.prog w' = .ok (.tuple #[.string (bstr p), .pointer (some ⟨q, 0, none⟩)]) w' := by
  rcases World.ranges.next h kstr ty with ⟨_, h1, h2⟩ | ⟨key, v, kl, y, w', cnt', hk, hl, hv, hat, hrun, hrg, hlt, hgr, hsz, hen⟩
  · exact .inl ⟨fun p => h1 _, h2⟩
  · obtain ⟨s, rfl, rfl, hs⟩ := WideMaps.string_of_keyOf Try.underlying9 hk
    obtain ⟨p, hp⟩ : ∃ p : Path, s.data.toList = p := ⟨_, rfl⟩
    have hsp : s = bstr p := by rw [← hp]; unfold bstr; simp
    rw [hp] at hl hat hrg
    cases hg : get p l with
    | none =>
      have h1 := hat (.lit (.bool true))
      have h2 := hat (.lit (.bool false))
      rw [Dm_at, hg] at h1 h2
      rw [← h1] at h2
      simp at h2
    | some q =>
      have h1 := hat (.lit (.bool true))
      rw [Dm_at, hg] at h1
      have hv' : v = .pointer (some ⟨q, 0, none⟩) := Rq_inv (ps := y.2) (by rw [hv]; exact congrArg some (Prod.ext h1.symm rfl))
      subst hv'
      rw [hsp] at hrun hen
      exact .inr ⟨p, q, w', cnt', hg, hl, by rw [← hp]; exact hs, hrun, hrg, hlt, (Chg.refl _ w).grown hgr (fun k hk => .inl (Option.some.inj hk).symm), hsz, hen⟩

/-- What has come already. -/
def came {α : Type} (left : Lit → Bool) (l : L α) : L α := l.filter fun e => !left (.string e.1)
theorem same_str (a b : Path) : (Lit.string a).sameKey (.string b) = (a == b) := rfl
theorem came_none {α : Type} {left : Lit → Bool} {l : L α} (h : ∀ e ∈ l, left (.string e.1) = true) : came left l = [] := by
  unfold came
  exact List.filter_eq_nil_iff.2 fun e he => by rw [h e he]; simp
theorem came_all {α : Type} {left : Lit → Bool} {l : L α} (h : ∀ p, left (.string p) = false) : came left l = l := by
  unfold came
  exact List.filter_eq_self.2 fun e he => by rw [h]; rfl
theorem came_cons {α : Type} (left : Lit → Bool) (e : Path × α) (l : L α) : came left (e :: l) = if left (.string e.1) = true then came left l else e :: came left l := by
  unfold came
  rw [List.filter_cons]
  cases left (.string e.1) <;> simp
theorem came_strike_ne {α : Type} {left : Lit → Bool} {p : Path} {l : L α} (h : ∀ e ∈ l, e.1 ≠ p) : came (strike left p) l = came left l := by
  unfold came
  refine List.filter_congr fun e he => ?_
  unfold strike
  have : ((Lit.string e.1).sameKey (.string p)) = false := by rw [same_str]; simpa using h e he
  rw [this]; simp
theorem tot_came {left : Lit → Bool} {p : Path} {f : Fil} : ∀ {l : L Fil}, Up l → get p l = some f → left (.string p) = true → tot (came (strike left p) l) = tot (came left l) + f.b.length
  | [], _, h, _ => by cases h
  | e :: l, hu, hg, hl => by
    rw [get_cons] at hg
    rw [came_cons, came_cons]
    by_cases he : e.1 = p
    · rw [if_pos he] at hg
      cases hg
      have hn : ∀ x ∈ l, x.1 ≠ p := fun x hx => by rw [← he]; exact (before_ne (hu.head _ hx)).symm
      have s1 : strike left p (.string e.1) = false := by unfold strike; rw [same_str, he]; simp
      rw [s1, if_neg (by simp), he, hl, if_pos rfl, came_strike_ne hn, tot_cons]; omega
    · rw [if_neg he] at hg
      have ih := tot_came hu.tail hg hl
      have s1 : strike left p (.string e.1) = left (.string e.1) := by
        unfold strike
        have : ((Lit.string e.1).sameKey (.string p)) = false := by rw [same_str]; simpa using he
        rw [this]; simp
      rw [s1]
      cases left (.string e.1) with
      | true => rw [if_pos rfl, if_pos rfl, ih]
      | false => rw [if_neg (by simp), if_neg (by simp), tot_cons, tot_cons, ih]; omega
theorem tot_came_le {left : Lit → Bool} : ∀ {l : L Fil}, tot (came left l) ≤ tot l
  | [] => Nat.le_refl _
  | e :: l => by
    rw [came_cons, tot_cons]
    have := tot_came_le (left := left) (l := l)
    split
    · omega
    · rw [tot_cons]; omega
theorem used_any (s m : Nat) (fp : Option Nat) (es : L Ent) (d : DS) (w : World) (h : Raw w s fp m es d) (ht : tot d.fs ≤ 1099511627776) :
    Calls Try.prog 24 #[.pointer (some ⟨s, 0, none⟩)] w fun e w' => e = .returned (.int .i64 (tot d.fs : Nat)) ∧ Ext w w' := by
  have H := Lib.hid h
  have c2 := h.row.cell (i := 2) (v := .map (some m)) rfl
  obtain ⟨w1, hrun, hR, hX, -⟩ := FRange.start h.map
  have HR := Lib.hid (And.intro hR hX)
  have hfs := h.fs
  have HU := Lib.hid (h.up.mapv (·.f))
  obtain ⟨r, hr⟩ : ∃ r, w.heap.size = r := ⟨_, rfl⟩
  rw [hr] at hrun HR
  have HRR := Lib.hid hr
  have hf0 : tot (came (allLeft (qs es)) d.fs) = 0 := by
    rw [came_none]
    · rfl
    · intro e he
      rw [hfs] at he
      obtain ⟨x, hx, rfl⟩ := List.mem_map.1 he
      rw [allLeft_iff, qs_get, get_of_mem h.up (x := x.2) (by exact hx)]; rfl
  have HF0 := Lib.hid hf0
  have HFS := Lib.hid hfs
  clear h hR hX hr hf0 hfs
  go_enter Try.func24, Try.ntmps24
  go_wp2_with fail
  clear hrun c2
  go_loopw [3] (fun v3 wr => ∃ (left : Lit → Bool) (cnt : Nat), v3 = .int .i64 (tot (came left d.fs) : Nat) ∧ Hid (FRange wr m r (qs es) left cnt) ∧ Ext w wr) (fun _ wr => wr.rangeLeft m r)
  case atStart => exact ⟨_, _, by rw [HF0.out]; rfl, Lib.hid HR.out.1, HR.out.2⟩
  case round =>
    obtain ⟨left, cnt, rfl, hF, hE⟩ := hrel
    have hml : wr.rangeLeft m r = cnt := World.ranges.left_eq hF.out
    have HE := Lib.hid hE
    rcases hF.out.next 0 with ⟨hl, hrun⟩ | ⟨p, q, w2, cnt', hg, hl, hpl, hrun, hF2, hlt, hg2, hsz, hen⟩
    · have hT := Lib.hid (show tot (came left d.fs) = tot d.fs by rw [came_all hl])
      clear hl hml
      go_wp2_with fail
      go_ret
      exact ⟨by rw [hT.out]; rfl, HE.out⟩
    · rw [qs_get] at hg
      cases hx : get p es with
      | none => rw [hx] at hg; cases hg
      | some x =>
        rw [hx] at hg
        simp only [Option.map_some, Option.some.injEq] at hg
        subst hg
        have hfile := (H.out.file _ (get_mem hx)).chg (Chg.of_ext hE (fun _ => False)) (fun h => h) (fun _ _ h => h)
        have hqr : x.q ≠ r := hF.out.ne hfile.1
        have hf2 := hfile.1.chg hg2 hqr
        have c1 := hf2.cell (i := 0) (v := x.v) rfl
        obtain ⟨va, vc, hv⟩ := Own.slice' hfile.2
        rw [bvs_len] at hv
        rw [hv] at c1
        have hle := tot_came_le (left := left) (l := d.fs)
        have hst := tot_came (left := left) (by rw [HFS.out]; exact HU.out) (show get p d.fs = some x.f by rw [HFS.out, fils_get, hx]; rfl) hl
        have hle2 := tot_came_le (left := strike left p) (l := d.fs)
        have hw2 : Ext w w2 := ⟨hg2.os.trans hE.os, hg2.tape.trans hE.tape, hg2.output.trans hE.output, Nat.le_trans hE.size hg2.size, fun b hb => (hg2.block b (Nat.lt_of_lt_of_le hb hE.size) (fun e => by have := HRR.out; omega)).trans (hE.block b hb)⟩
        have hE2 := Lib.hid hw2
        obtain ⟨t0, ht0⟩ : ∃ t0, tot (came left d.fs) = t0 := ⟨_, rfl⟩
        obtain ⟨n0, hn0⟩ : ∃ n0, x.f.b.length = n0 := ⟨_, rfl⟩
        rw [ht0, hn0] at hst
        rw [ht0] at hle ⊢
        rw [hn0] at c1
        have b0 : n0 ≤ 1099511627776 := by omega
        have hmk : wr.rangeLeft m r = cnt := hml
        have HN := Lib.hid (And.intro hF2 (And.intro hst (And.intro hlt hmk)))
        have hle3 : t0 ≤ 1099511627776 := by omega
        clear hw2 hst hle hle2 hlt hF2 hml hmk hv hf2 hfile ht0 hn0 hx hg2 hsz hE hqr hl hpl
        go_wp2_with fail
        exact ⟨⟨_, _, by rw [HN.out.2.1]; go_num, Lib.hid HN.out.1, hE2.out⟩, by rw [World.ranges.left_eq HN.out.1, HN.out.2.2.2]; exact HN.out.2.2.1⟩
end Go.Proofs.Ytnphkddhckcpmaa
