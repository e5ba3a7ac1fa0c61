/-
  Sync, Read, Rename, Delete.
-/
import Derived.Test.YtnphkddhckcpmaaDkG
namespace Go.Proofs.Ytnphkddhckcpmaa
open Go.RowKit Dk Go.WideShapes Go.ChangeMaps Go.MapKept
set_option maxRecDepth 100000
set_option maxHeartbeats 4000000
attribute [local go_sem] min_int2 max_int2 bstr_toList

namespace Dk
theorem put_same {α : Type} {l : L α} (hu : Up l) {p : Path} {x : α} (h : get p l = some x) : put p x l = l :=
  get_ext (put_up hu) hu fun q => by
    rw [get_put hu]
    by_cases e : p = q
    · rw [if_pos e, ← e, h]
    · rw [if_neg e]
def syncs (z : Option FS) (d : DS) (p : Path) : Nat × Option FS × DS :=
  if opens z d p [] = 0 then (0, (begins z d [p]).2.1, { (begins z d [p]).2.2 with fs := put p ⟨match get p d.fs with | some f => f.b | none => [], true⟩ d.fs }) else (opens z d p [], (begins z d [p]).2)
/-- What is read. -/
def readb (z : Option FS) (d : DS) (p : Path) : List UInt8 := if opens z d p [] = 0 then (match get p d.fs with | some f => f.b | none => []) else []
def renames (z : Option FS) (d : DS) (p q : Path) : Nat × Option FS × DS :=
  if opens z d p [q] = 0 then (if p = q then (0, (begins z d [p, q]).2) else (0, (begins z d [p, q]).2.1, { (begins z d [p, q]).2.2 with fs := del p (match get p d.fs with | some f => put q f d.fs | none => d.fs) })) else (opens z d p [q], (begins z d [p, q]).2)
def deletes (z : Option FS) (d : DS) (p : Path) : Nat × Option FS × DS :=
  if opens z d p [] = 0 then (0, (begins z d [p]).2.1, { (begins z d [p]).2.2 with fs := del p d.fs }) else (opens z d p [], (begins z d [p]).2)
/-- Where open has no error the operation was begun, and the file is there. -/
theorem opens_zero {z : Option FS} {d : DS} {p : Path} {more : List Path} (h : opens z d p more = 0) : (begins z d (p :: more)).1 = 0 ∧ ∃ f, get p d.fs = some f := by
  unfold opens at h
  split at h
  · rename_i h0
    refine ⟨h0, ?_⟩
    cases hg : get p d.fs with
    | none => rw [hg] at h; simp at h
    | some f => exact ⟨f, rfl⟩
  · rename_i h0; exact absurd h h0
end Dk

/-- One file's slice and mark written anew. -/
theorem Raw.turn {w w' : World} {s m : Nat} {fp : Option Nat} {es : L Ent} {d : DS} (h : Raw w s fp m es d) {p : Path} {x : Ent} (hx : get p es = some x) {v' : Value} {f' : Fil} (hc : Chg (fun b => b = x.q) w w')
    (hr : Row w' x.q 82 #[v', .bool f'.sure]) (hv : v'.ownBlock = x.v.ownBlock ∨ v'.ownBlock = none) (ho : Own w' 0 5 v' (bvs f'.b)) : Raw w' s fp m (Dk.put p ⟨x.q, v', f'⟩ es) { d with fs := Dk.put p f' d.fs } := by
  have hs := h.sim
  have hxm := get_mem hx
  have hqs : qs (Dk.put p ⟨x.q, v', f'⟩ es) = qs es := by
    show mapv (fun x : Ent => x.q) (Dk.put p ⟨x.q, v', f'⟩ es) = _
    rw [← put_mapv (fun x : Ent => x.q)]
    exact put_same (h.up.mapv _) (by rw [get_mapv, hx]; rfl)
  have ap : ∀ e ∈ es, e.1 ≠ p → EApart x e.2 ∧ EApart e.2 x := fun e he hne => ⟨h.apart (p, x) hxm e he fun e1 => hne e1.symm, h.apart e he (p, x) hxm hne⟩
  have ap' : ∀ e ∈ es, e.1 ≠ p → EApart ⟨x.q, v', f'⟩ e.2 ∧ EApart e.2 ⟨x.q, v', f'⟩ := fun e he hne => by
    obtain ⟨⟨a1, a2⟩, b1, b2⟩ := ap e he hne
    refine ⟨⟨a1, ?_⟩, b1, ?_⟩
    · show v'.ownBlock = none ∨ v'.ownBlock ≠ e.2.v.ownBlock
      rcases hv with hv | hv
      · rw [hv]; exact a2
      · exact .inl hv
    · show e.2.v.ownBlock = none ∨ e.2.v.ownBlock ≠ v'.ownBlock
      rcases hv with hv | hv
      · rw [hv]; exact b2
      · cases hb : e.2.v.ownBlock with
        | none => exact .inl rfl
        | some k => right; rw [hv]; simp
  refine ⟨h.row.chg hc (fun e => (hs.2 _ hxm).1 e.symm), by rw [hqs]; exact h.map.chg hc (fun e => h.map.ne (h.file _ hxm).1 e.symm), put_up h.up, fun e he => ?_, fun e he e' he' hne => ?_, ?_, h.nb, h.nm⟩
  · rcases mem_put.1 he with rfl | ⟨he, hne⟩
    · exact ⟨hr, ho⟩
    · exact (h.file e he).chg hc (ap e he hne).2.1 (fun b hb e1 => (h.file e he).2.ne (h.file _ hxm).1 (fun x => ty_file_byte x.symm) (by rw [hb, e1]))
  · rcases mem_put.1 he with rfl | ⟨he, hn⟩ <;> rcases mem_put.1 he' with rfl | ⟨he', hn'⟩
    · exact absurd rfl hne
    · exact (ap' e' he' hn').1
    · exact (ap' e he hn).2
    · exact h.apart e he e' he' hne
  · show Dk.put p f' d.fs = _
    rw [h.fs]
    exact put_mapv (fun x : Ent => x.f) p ⟨x.q, v', f'⟩ es
/-- The files come under other paths, or go. -/
theorem Raw.remap {w w' : World} {s m : Nat} {fp : Option Nat} {es es' : L Ent} {d : DS} (h : Raw w s fp m es d) (hc : Chg (fun b => b = m) w w') (hm : FMap w' m (qs es')) (hu : Up es') (hsub : ∀ e ∈ es', ∃ e0 ∈ es, e0.2 = e.2)
    (hap : ∀ e ∈ es', ∀ e' ∈ es', e.1 ≠ e'.1 → EApart e.2 e'.2) : Raw w' s fp m es' { d with fs := fils es' } :=
  ⟨h.row.chg hc h.sim.1, hm, hu, fun e he => by
    obtain ⟨e0, h0, e1⟩ := hsub e he
    have hf := h.file e0 h0
    rw [e1] at hf
    exact hf.chg hc (fun x => h.map.ne hf.1 x) (fun b hb x => h.map.own hf.2 (by rw [hb, x])), hap, rfl, h.nb, h.nm⟩
theorem Foot.sub {s m : Nat} {es es' : L Ent} (hsub : ∀ e ∈ es', ∃ e0 ∈ es, e0.2.q = e.2.q ∧ (e.2.v.ownBlock = e0.2.v.ownBlock ∨ e.2.v.ownBlock = none)) {b : Nat} (h : Foot s m es' b) : Foot s m es b := by
  rcases h with h | h | ⟨e, he, h⟩
  · exact .inl h
  · exact .inr (.inl h)
  · obtain ⟨e0, h0, e1, e2⟩ := hsub e he
    refine .inr (.inr ⟨e0, h0, ?_⟩)
    rcases h with h | h
    · exact .inl (by rw [h, e1])
    · rcases e2 with e2 | e2
      · exact .inr (by rw [← e2, h])
      · rw [e2] at h; cases h
theorem sync_any (s : Nat) (fp : Option Nat) (z : Option FS) (d : DS) (S : Nat → Prop) (p : Path) (w : World) (h : SimAt w s fp d S) (hz : FzAt w fp z) (hzo : zops z < 1099511627776) (hp : p.length ≤ maxLen) :
    Calls Try.prog 31 #[.pointer (some ⟨s, 0, none⟩), .string (bstr p)] w (SimOut s fp S w (syncs z d p)) := by
  obtain ⟨m, es, h, hS1, hS2, hS3⟩ := h
  have H := Lib.hid h
  have HZ := Lib.hid hz
  have HS := Lib.hid (And.intro hS1 (And.intro hS2 (show ∀ b, fp = some b → ¬ S b ∧ b < w.heap.size from fun b hb => ⟨hS3 b hb, hz.lt b hb⟩)))
  have HP := Lib.hid hp
  clear h hz hS1 hS2 hS3 hp
  go_enter Try.func31, Try.ntmps31
  go_wp2_with fail
  refine (open_any s m fp z es d p [] _ _ H.out HZ.out hzo HP.out (by simp) (by simp) (Own.nil _ _ _)).mono ?_; rintro e w2 ⟨rfl, hz2, h2, hg2⟩
  have HZ2 := Lib.hid hz2
  have H2 := Lib.hid h2
  have HG2 := Lib.hid (hg2.mono (T := fun b => S b ∨ fp = some b) fun b _ hb => by
    rcases hb with rfl | hb
    · exact .inl (HS.out.1 _ (.inl rfl))
    · exact .inr hb)
  clear hz2 h2 hg2
  obtain ⟨n, hnn⟩ : ∃ n, opens z d p [] = n := ⟨_, rfl⟩
  rw [hnn]
  by_cases h0 : n = 0
  case neg =>
    have q1 : ((n : Int) == 0) = false := by simp; omega
    have HW : Hid (syncs z d p = (n, (begins z d [p]).2)) := Lib.hid (by unfold syncs; rw [hnn, if_neg h0])
    clear h0 hnn
    go_wp2_with fail
    go_ret
    rw [HW.out]
    exact ⟨rfl, HZ2.out, H2.out.simAt (fun b hb => .inl (HS.out.1 b hb)) HS.out.2.1 HS.out.2.2 HG2.out.size, HG2.out⟩
  subst h0
  have q1 : (((0 : Nat) : Int) == 0) = true := rfl
  obtain ⟨hb0, f, hf⟩ := opens_zero hnn
  obtain ⟨x, hx, hxf⟩ : ∃ x, get p es = some x ∧ x.f = f := by
    rw [H.out.fs, fils_get] at hf
    cases hg : get p es with
    | none => rw [hg] at hf; cases hf
    | some x => rw [hg] at hf; exact ⟨x, rfl, Option.some.inj hf⟩
  have hq : openQ z es d p [] = some x.q := by unfold openQ; rw [hb0, if_pos rfl, hx]; rfl
  rw [hq, show fptr (some x.q) = .pointer (some ⟨x.q, 0, none⟩) from rfl]
  have hfile := H2.out.file _ (get_mem hx)
  have c1 := hfile.1.cell (i := 1) (v := .bool x.f.sure) rfl
  have u1 := hfile.1.unfrozen 1
  have hc : Chg (fun b => b = x.q) w2 (w2.setCell ⟨x.q, 1, none⟩ (.bool true)) := (Chg.refl (fun b => b = x.q) w2).at x.q 1 (.inl rfl) _
  have hr := hfile.1.set 1 (.bool true)
  have ht := H2.out.turn hx (v' := x.v) (f' := ⟨x.f.b, true⟩) hc (by simpa using hr) (.inl rfl) (hfile.2.chg hc (fun b hb e1 => hfile.2.ne hfile.1 (fun x => ty_file_byte x.symm) (by rw [hb, e1])))
  have HW : Hid (syncs z d p = (0, (begins z d [p]).2.1, { (begins z d [p]).2.2 with fs := Dk.put p ⟨x.f.b, true⟩ (begins z d [p]).2.2.fs })) := Lib.hid (by unfold syncs; rw [hnn, if_pos rfl, hf, begins_fs, hxf])
  have HN := Lib.hid (And.intro ht (And.intro (HZ2.out.chg hc (fun b hb e1 => H2.out.fuse HZ2.out b (.inr (.inr ⟨_, get_mem hx, .inl e1⟩)) hb)) (And.intro (HG2.out.at x.q 1 (.inl (.inl (HS.out.1 _ (.inr (.inr ⟨_, get_mem hx, .inl rfl⟩))))) (.bool true)) hx)))
  clear hnn hb0 hf hx hxf hq hfile hc hr ht
  go_wp2_with fail
  go_ret
  rw [HW.out]
  refine ⟨rfl, HN.out.2.1, HN.out.1.simAt (fun b hb => .inl (HS.out.1 b (Foot.sub (fun e he => ?_) hb))) HS.out.2.1 HS.out.2.2 HN.out.2.2.1.size, HN.out.2.2.1⟩
  rcases mem_put.1 he with rfl | ⟨he, -⟩
  · exact ⟨_, get_mem HN.out.2.2.2, rfl, .inl rfl⟩
  · exact ⟨e, he, rfl, .inl rfl⟩
def ReadOut (s : Nat) (fp : Option Nat) (z : Option FS) (d : DS) (S : Nat → Prop) (p : Path) (w : World) (e : Ending) (w' : World) : Prop :=
  ∃ u, e = .returned (.tuple #[u, .int .i64 (opens z d p [] : Nat)]) ∧ Own w' w.heap.size 5 u (bvs (readb z d p)) ∧ FzAt w' fp (begins z d [p]).2.1 ∧ SimAt w' s fp (begins z d [p]).2.2 S ∧ Chg (fun b => S b ∨ fp = some b) w w'
theorem read_any (s : Nat) (fp : Option Nat) (z : Option FS) (d : DS) (S : Nat → Prop) (p : Path) (w : World) (h : SimAt w s fp d S) (hz : FzAt w fp z) (hzo : zops z < 1099511627776) (hp : p.length ≤ maxLen) (ht : tot d.fs ≤ 1099511627776) :
    Calls Try.prog 27 #[.pointer (some ⟨s, 0, none⟩), .string (bstr p)] w (ReadOut s fp z d S p w) := by
  obtain ⟨m, es, h, hS1, hS2, hS3⟩ := h
  have H := Lib.hid h
  have HZ := Lib.hid hz
  have HS := Lib.hid (And.intro hS1 (And.intro hS2 hS3))
  have HP := Lib.hid hp
  clear h hz hS1 hS2 hS3 hp
  go_enter Try.func27, Try.ntmps27
  go_wp2_with fail
  refine (open_any s m fp z es d p [] _ _ H.out HZ.out hzo HP.out (by simp) (by simp) (Own.nil _ _ _)).mono ?_; rintro e w2 ⟨rfl, hz2, h2, hg2⟩
  have HG2 := Lib.hid (hg2.mono (T := fun b => S b ∨ fp = some b) fun b _ hb => by
    rcases hb with rfl | hb
    · exact .inl (HS.out.1 _ (.inl rfl))
    · exact .inr hb)
  have HZ2 := Lib.hid hz2
  have H2 := Lib.hid (And.intro h2 (show SimAt w2 s fp (begins z d [p]).2.2 S from ⟨m, es, h2, HS.out.1, fun b hb => Nat.lt_of_lt_of_le (HS.out.2.1 b hb) hg2.size, HS.out.2.2⟩))
  clear hz2 h2 hg2
  obtain ⟨n, hnn⟩ : ∃ n, opens z d p [] = n := ⟨_, rfl⟩
  rw [hnn]
  by_cases h0 : n = 0
  case neg =>
    have q1 : ((n : Int) != 0) = true := by simp; omega
    have HW : Hid (readb z d p = []) := Lib.hid (by unfold readb; rw [hnn, if_neg h0])
    have HB := Lib.hid (show Own w2 w.heap.size 5 (.slice none 0 0) (bvs (readb z d p)) by rw [HW.out]; exact Own.nil _ _ _)
    have HN := Lib.hid hnn
    clear h0 hnn
    go_wp2_with fail
    go_ret2
    exact ⟨_, by rw [HN.out]; rfl, HB.out, HZ2.out, H2.out.2, HG2.out⟩
  subst h0
  have q1 : (((0 : Nat) : Int) != 0) = false := rfl
  obtain ⟨hb0, f, hf⟩ := opens_zero hnn
  obtain ⟨x, hx, hxf⟩ : ∃ x, get p es = some x ∧ x.f = f := by
    rw [H.out.fs, fils_get] at hf
    cases hg : get p es with
    | none => rw [hg] at hf; cases hf
    | some x => rw [hg] at hf; exact ⟨x, rfl, Option.some.inj hf⟩
  have hq : openQ z es d p [] = some x.q := by unfold openQ; rw [hb0, if_pos rfl, hx]; rfl
  rw [hq, show fptr (some x.q) = .pointer (some ⟨x.q, 0, none⟩) from rfl]
  have hfile := H2.out.1.file _ (get_mem hx)
  have c1 := hfile.1.cell (i := 0) (v := x.v) rfl
  obtain ⟨xa, xc, hv⟩ := Own.slice' hfile.2
  rw [bvs_len] at hv
  have hl : x.f.b.length ≤ 140737488351232 := by
    have := tot_mem (l := d.fs) (e := (p, x.f)) (get_mem (by rw [H.out.fs, fils_get, hx]; rfl))
    have h2 : x.f.b.length ≤ tot d.fs := this
    omega
  have HW : Hid (readb z d p = x.f.b) := Lib.hid (by unfold readb; rw [hnn, if_pos rfl, hf, hxf])
  have HC := Lib.hid (And.intro hfile.2.cells hl)
  rw [hv] at c1 HC
  have HN := Lib.hid hnn
  clear hnn hb0 hf hx hxf hq hfile hv hl
  go_wp2_with fail
  refine (bclone_own _ x.f.b HC.out.2 _ HC.out.1).mono ?_; rintro e w3 ⟨u, rfl, hU, x3⟩
  have HU := Lib.hid (show Own w3 w.heap.size 5 u (bvs (readb z d p)) by rw [HW.out]; exact hU.mono HG2.out.size)
  have HZ3 := Lib.hid (HZ2.out.chg (Chg.of_ext x3 (fun _ => False)) (fun _ _ h => h))
  have H3 := Lib.hid (H2.out.2.ext x3)
  have HG3 := Lib.hid (HG2.out.trans (Chg.of_ext x3 _))
  clear hU x3
  go_wp2_with fail
  go_ret2
  exact ⟨_, by rw [HN.out]; rfl, HU.out, HZ3.out, H3.out, HG3.out⟩
theorem delete_any (s : Nat) (fp : Option Nat) (z : Option FS) (d : DS) (S : Nat → Prop) (p : Path) (w : World) (h : SimAt w s fp d S) (hz : FzAt w fp z) (hzo : zops z < 1099511627776) (hp : p.length ≤ maxLen) :
    Calls Try.prog 20 #[.pointer (some ⟨s, 0, none⟩), .string (bstr p)] w (SimOut s fp S w (deletes z d p)) := by
  obtain ⟨m, es, h, hS1, hS2, hS3⟩ := h
  have H := Lib.hid h
  have HZ := Lib.hid hz
  have HS := Lib.hid (And.intro hS1 (And.intro hS2 (show ∀ b, fp = some b → ¬ S b ∧ b < w.heap.size from fun b hb => ⟨hS3 b hb, hz.lt b hb⟩)))
  have HP := Lib.hid hp
  clear h hz hS1 hS2 hS3 hp
  go_enter Try.func20, Try.ntmps20
  go_wp2_with fail
  refine (open_any s m fp z es d p [] _ _ H.out HZ.out hzo HP.out (by simp) (by simp) (Own.nil _ _ _)).mono ?_; rintro e w2 ⟨rfl, hz2, h2, hg2⟩
  have HZ2 := Lib.hid hz2
  have H2 := Lib.hid h2
  have HG2 := Lib.hid (hg2.mono (T := fun b => S b ∨ fp = some b) fun b _ hb => by
    rcases hb with rfl | hb
    · exact .inl (HS.out.1 _ (.inl rfl))
    · exact .inr hb)
  clear hz2 h2 hg2
  obtain ⟨n, hnn⟩ : ∃ n, opens z d p [] = n := ⟨_, rfl⟩
  rw [hnn]
  by_cases h0 : n = 0
  case neg =>
    have q1 : ((n : Int) == 0) = false := by simp; omega
    have HW : Hid (deletes z d p = (n, (begins z d [p]).2)) := Lib.hid (by unfold deletes; rw [hnn, if_neg h0])
    clear h0 hnn
    go_wp2_with fail
    go_ret
    rw [HW.out]
    exact ⟨rfl, HZ2.out, H2.out.simAt (fun b hb => .inl (HS.out.1 b hb)) HS.out.2.1 HS.out.2.2 HG2.out.size, HG2.out⟩
  subst h0
  have q1 : (((0 : Nat) : Int) == 0) = true := rfl
  have c2 := H2.out.row.cell (i := 2) (v := .map (some m)) rfl
  obtain ⟨w3, hrun, hm3, hg3, -⟩ := H2.out.map.del p HP.out 0
  have hc : Chg (fun b => b = m) w2 w3 := (Chg.refl _ w2).grown hg3 (fun k hk => .inl (Option.some.inj hk).symm)
  have hr := H2.out.remap (es' := Dk.del p es) hc (by
    have : qs (Dk.del p es) = Dk.del p (qs es) := (del_mapv _ p es).symm
    rw [this]; exact hm3) (del_up H2.out.up p) (fun e he => ⟨e, (mem_del.1 he).1, rfl⟩) (fun e he e' he' hne => H2.out.apart e (mem_del.1 he).1 e' (mem_del.1 he').1 hne)
  have HW : Hid (deletes z d p = (0, (begins z d [p]).2.1, { (begins z d [p]).2.2 with fs := fils (Dk.del p es) })) := Lib.hid (by
    unfold deletes; rw [hnn, if_pos rfl, H.out.fs]
    show (_, _, DS.mk _ _ _ (Dk.del p (mapv _ es))) = _
    rw [del_mapv]; rfl)
  have HN := Lib.hid (And.intro hr (And.intro (HZ2.out.chg hc (fun b hb e1 => H2.out.fuse HZ2.out b (.inr (.inl e1)) hb)) (HG2.out.trans (hc.mono (T := fun b => S b ∨ fp = some b) fun b _ hb => .inl (by rw [hb]; exact HS.out.1 _ (.inr (.inl rfl)))))))
  clear hnn hm3 hg3 hc hr
  go_wp2_with fail
  go_ret
  rw [HW.out]
  exact ⟨rfl, HN.out.2.1, HN.out.1.simAt (fun b hb => .inl (HS.out.1 b (Foot.sub (fun e he => ⟨e, (mem_del.1 he).1, rfl, .inl rfl⟩) hb))) HS.out.2.1 HS.out.2.2 HN.out.2.2.size, HN.out.2.2⟩
theorem rename_any (s : Nat) (fp : Option Nat) (z : Option FS) (d : DS) (S : Nat → Prop) (p q : Path) (w : World) (h : SimAt w s fp d S) (hz : FzAt w fp z) (hzo : zops z < 1099511627776) (hp : p.length ≤ maxLen) (hq : q.length ≤ maxLen) (hn : d.fs.length ≤ 4096) :
    Calls Try.prog 32 #[.pointer (some ⟨s, 0, none⟩), .string (bstr p), .string (bstr q)] w (SimOut s fp S w (renames z d p q)) := by
  obtain ⟨m, es, h, hS1, hS2, hS3⟩ := h
  have H := Lib.hid h
  have HZ := Lib.hid hz
  have HS := Lib.hid (And.intro hS1 (And.intro hS2 (show ∀ b, fp = some b → ¬ S b ∧ b < w.heap.size from fun b hb => ⟨hS3 b hb, hz.lt b hb⟩)))
  have HP := Lib.hid (And.intro hp hq)
  have o1 := Strs.one w q
  have x1 : Ext w (w.alloc (.cells #[.string (bstr q)] 9)) := (Ext.refl w).alloc (Nat.le_refl _) _
  have c1 : Chg (fun _ => False) w (w.alloc (.cells #[.string (bstr q)] 9)) := Chg.of_ext x1 _
  have HA := Lib.hid (And.intro o1 (And.intro (h.chg c1 (fun _ _ h => h)) (And.intro (hz.chg c1 (fun _ _ h => h)) x1)))
  clear h hz hS1 hS2 hS3 hp hq o1 x1 c1
  go_enter Try.func32, Try.ntmps32
  go_wp2_with fail
  refine (open_any s m fp z es d p [q] _ _ HA.out.2.1 HA.out.2.2.1 hzo HP.out.1 (by simp) (fun r hr => by rw [List.mem_singleton.1 hr]; exact HP.out.2) HA.out.1).mono ?_; rintro e w2 ⟨rfl, hz2, h2, hg2⟩
  have HZ2 := Lib.hid hz2
  have H2 := Lib.hid h2
  have HG2 := Lib.hid ((Chg.after HA.out.2.2.2 hg2).mono (T := fun b => S b ∨ fp = some b) fun b _ hb => by
    rcases hb with rfl | hb
    · exact .inl (HS.out.1 _ (.inl rfl))
    · exact .inr hb)
  clear hz2 h2 hg2
  obtain ⟨n, hnn⟩ : ∃ n, opens z d p [q] = n := ⟨_, rfl⟩
  rw [hnn]
  by_cases h0 : n = 0
  case neg =>
    have q1 : ((n : Int) != 0) = true := by simp; omega
    have HW : Hid (renames z d p q = (n, (begins z d [p, q]).2)) := Lib.hid (by unfold renames; rw [hnn, if_neg h0])
    clear h0 hnn
    go_wp2_with fail
    go_ret
    rw [HW.out]
    exact ⟨rfl, HZ2.out, H2.out.simAt (fun b hb => .inl (HS.out.1 b hb)) HS.out.2.1 HS.out.2.2 HG2.out.size, HG2.out⟩
  subst h0
  have q1 : (((0 : Nat) : Int) != 0) = false := rfl
  by_cases hpq : p = q
  · have HW : Hid (renames z d p q = (0, (begins z d [p, q]).2)) := Lib.hid (by unfold renames; rw [hnn, if_pos rfl, if_pos hpq])
    have q2 : (p == q) = true := by simpa using hpq
    clear hnn hpq
    go_wp2_with fail
    go_ret
    rw [HW.out]
    exact ⟨rfl, HZ2.out, H2.out.simAt (fun b hb => .inl (HS.out.1 b hb)) HS.out.2.1 HS.out.2.2 HG2.out.size, HG2.out⟩
  have q2 : (p == q) = false := by simpa using hpq
  obtain ⟨hb0, f, hf⟩ := opens_zero hnn
  obtain ⟨x, hx, hxf⟩ : ∃ x, get p es = some x ∧ x.f = f := by
    rw [H.out.fs, fils_get] at hf
    cases hg : get p es with
    | none => rw [hg] at hf; cases hf
    | some x => rw [hg] at hf; exact ⟨x, rfl, Option.some.inj hf⟩
  have hoq : openQ z es d p [q] = some x.q := by unfold openQ; rw [hb0, if_pos rfl, hx]; rfl
  rw [hoq, show fptr (some x.q) = .pointer (some ⟨x.q, 0, none⟩) from rfl]
  have c2 := H2.out.row.cell (i := 2) (v := .map (some m)) rfl
  have hel : (qs es).length ≤ 4096 := by rw [show (qs es).length = es.length from mapv_length _ _]; rw [H.out.fs, show (fils es).length = es.length from mapv_length _ _] at hn; exact hn
  obtain ⟨w3, hrun3, hm3, hg3, -⟩ := H2.out.map.put q HP.out.2 x.q (by omega)
  obtain ⟨w4, hrun4, hm4, hg4, -⟩ := hm3.del p HP.out.1 0
  have hc3 : Chg (fun b => b = m) w2 w3 := (Chg.refl _ w2).grown hg3 (fun k hk => .inl (Option.some.inj hk).symm)
  have hc : Chg (fun b => b = m) w2 w4 := hc3.grown hg4 (fun k hk => .inl (Option.some.inj hk).symm)
  have c3 := hc3.cell c2 H2.out.sim.1
  have hxm := get_mem hx
  have key : ∀ e ∈ Dk.del p (Dk.put q x es), (e = (q, x)) ∨ (e ∈ es ∧ e.1 ≠ p) := fun e he => by
    obtain ⟨he, hne⟩ := mem_del.1 he
    rcases mem_put.1 he with h | ⟨h, -⟩
    · exact .inl h
    · exact .inr ⟨h, hne⟩
  have hsub : ∀ e ∈ Dk.del p (Dk.put q x es), ∃ e0 ∈ es, e0.2 = e.2 := fun e he => by
    rcases key e he with rfl | ⟨h, -⟩
    · exact ⟨_, hxm, rfl⟩
    · exact ⟨e, h, rfl⟩
  have hr := H2.out.remap (es' := Dk.del p (Dk.put q x es)) hc (by
    have e1 : qs (Dk.put q x es) = Dk.put q x.q (qs es) := (put_mapv (fun x : Ent => x.q) q x es).symm
    have e2 : qs (Dk.del p (Dk.put q x es)) = Dk.del p (qs (Dk.put q x es)) := (del_mapv _ p _).symm
    rw [e2, e1]; exact hm4) (del_up (put_up H2.out.up) p) hsub (fun e he e' he' hne => by
    rcases key e he with rfl | ⟨h, h1⟩ <;> rcases key e' he' with rfl | ⟨h', h1'⟩
    · exact absurd rfl hne
    · exact H2.out.apart (p, x) hxm e' h' (fun e1 => h1' e1.symm)
    · exact H2.out.apart e h (p, x) hxm h1
    · exact H2.out.apart e h e' h' hne)
  have HW : Hid (renames z d p q = (0, (begins z d [p, q]).2.1, { (begins z d [p, q]).2.2 with fs := fils (Dk.del p (Dk.put q x es)) })) := Lib.hid (by
    unfold renames; rw [hnn, if_pos rfl, if_neg hpq, hf, H.out.fs]
    show (_, _, DS.mk _ _ _ (Dk.del p (Dk.put q f (mapv (fun x : Ent => x.f) es)))) = _
    rw [← hxf, put_mapv (fun x : Ent => x.f) q x es, del_mapv]; rfl)
  have HN := Lib.hid (And.intro hr (And.intro (HZ2.out.chg hc (fun b hb e1 => H2.out.fuse HZ2.out b (.inr (.inl e1)) hb)) (And.intro (HG2.out.trans (hc.mono (T := fun b => S b ∨ fp = some b) fun b _ hb => .inl (by rw [hb]; exact HS.out.1 _ (.inr (.inl rfl))))) hsub)))
  clear hnn hm3 hg3 hm4 hg4 hc hc3 hr hpq hb0 hf hx hxf hoq hel hxm key hsub
  go_wp2_with fail
  go_ret
  rw [HW.out]
  exact ⟨rfl, HN.out.2.1, HN.out.1.simAt (fun b hb => .inl (HS.out.1 b (Foot.sub (fun e he => by
    obtain ⟨e0, h0, e1⟩ := HN.out.2.2.2 e he
    exact ⟨e0, h0, by rw [e1], by rw [e1]; exact .inl rfl⟩) hb))) HS.out.2.1 HS.out.2.2 HN.out.2.2.1.size, HN.out.2.2.1⟩
end Go.Proofs.Ytnphkddhckcpmaa
