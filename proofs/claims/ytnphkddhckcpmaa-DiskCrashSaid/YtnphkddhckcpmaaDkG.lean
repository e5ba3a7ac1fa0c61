/-
  Write.
-/
import Derived.Test.YtnphkddhckcpmaaDkF
namespace Go.Proofs.Ytnphkddhckcpmaa
open Go.RowKit Dk Go.WideShapes Go.ChangeMaps Go.MapKept
set_option maxRecDepth 100000
set_option maxHeartbeats 4000000
attribute [local go_sem] min_int2 max_int2 bstr_toList

namespace Dk
def writes (z : Option FS) (d : DS) (p : Path) (b : List UInt8) : Nat × Option FS × DS :=
  if (begins z d [p]).1 ≠ 0 then begins z d [p]
  else if 262144 < b.length then (3, (begins z d [p]).2)
  else if d.most + olen p d.fs < tot d.fs + b.length ∨ 4096 < (if (get p d.fs).isSome then d.fs.length else d.fs.length + 1) then (8, (begins z d [p]).2)
  else (0, (begins z d [p]).2.1, { (begins z d [p]).2.2 with fs := put p ⟨b, false⟩ d.fs })
end Dk
theorem begins_most (z : Option FS) (d : DS) (ps : List Path) : (begins z d ps).2.2.most = d.most := by
  unfold begins; repeat (first | rfl | split)
theorem begins_off (z : Option FS) (d : DS) (ps : List Path) : (begins z d ps).2.2.off = d.off := by
  unfold begins; repeat (first | rfl | split)
/-- What an operation leaves. -/
def SimOut (s : Nat) (fp : Option Nat) (S : Nat → Prop) (w : World) (r : Nat × Option FS × DS) (e : Ending) (w' : World) : Prop :=
  e = .returned (.int .i64 (r.1 : Nat)) ∧ FzAt w' fp r.2.1 ∧ SimAt w' s fp r.2.2 (Grow S w w') ∧ Chg (fun b => S b ∨ fp = some b) w w'
theorem Raw.simAt {w w' : World} {s m : Nat} {fp : Option Nat} {es : L Ent} {d : DS} {S : Nat → Prop} (h : Raw w' s fp m es d) (h1 : ∀ b, Foot s m es b → Grow S w w' b) (h2 : ∀ b, S b → b < w.heap.size) (h3 : ∀ b, fp = some b → ¬ S b ∧ b < w.heap.size) (hs : w.heap.size ≤ w'.heap.size) : SimAt w' s fp d (Grow S w w') :=
  ⟨m, es, h, h1, fun b hb => by rcases hb with hb | hb; exact Nat.lt_of_lt_of_le (h2 b hb) hs; exact hb.2, fun b hb hg => by
    obtain ⟨h4, h5⟩ := h3 b hb
    rcases hg with hg | hg
    · exact h4 hg
    · omega⟩
theorem FzAt.lt {w : World} {fp : Option Nat} {z : Option FS} (h : FzAt w fp z) (b : Nat) (hb : fp = some b) : b < w.heap.size := by
  subst hb
  cases z with
  | none => exact h.elim
  | some z => exact h.1.lt
/-- A new file at p. -/
theorem Raw.put {w w' : World} {s m q : Nat} {fp : Option Nat} {es : L Ent} {d : DS} {u : Value} {f : Fil} (p : Path) (h : Raw w s fp m es d) (hq : Row w q 82 #[u, .bool f.sure]) (hu : Own w 0 5 u (bvs f.b))
    (hn : ∀ e ∈ es, EApart ⟨q, u, f⟩ e.2 ∧ EApart e.2 ⟨q, u, f⟩) (hm : FMap w' m (Dk.put p q (qs es))) (hg : w.grownBy w' (some m)) : Raw w' s fp m (Dk.put p ⟨q, u, f⟩ es) { d with fs := Dk.put p f d.fs } := by
  have hc : Chg (fun b => b = m) w w' := (Chg.refl _ w).grown hg (fun k hk => .inl (Option.some.inj hk).symm)
  have hs := h.sim
  have hfile : ∀ e ∈ Dk.put p (⟨q, u, f⟩ : Ent) es, FileAt w e.2 := fun e he => by
    rcases mem_put.1 he with rfl | ⟨he, -⟩
    · exact ⟨hq, hu⟩
    · exact h.file e he
  refine ⟨h.row.chg hc hs.1, ?_, put_up h.up, fun e he => (hfile e he).chg hc (fun x => h.map.ne (hfile e he).1 x) (fun b hb x => h.map.own (hfile e he).2 (by rw [hb, x])), fun e he e' he' hne => ?_, ?_, h.nb, h.nm⟩
  · have : qs (Dk.put p ⟨q, u, f⟩ es) = Dk.put p q (qs es) := (put_mapv (fun x : Ent => x.q) p ⟨q, u, f⟩ es).symm
    rw [this]; exact hm
  · rcases mem_put.1 he with rfl | ⟨he, -⟩ <;> rcases mem_put.1 he' with rfl | ⟨he', -⟩
    · exact absurd rfl hne
    · exact (hn e' he').1
    · exact (hn e he).2
    · exact h.apart e he e' he' hne
  · show Dk.put p f d.fs = _
    rw [h.fs]
    exact put_mapv (fun x : Ent => x.f) p ⟨q, u, f⟩ es
theorem EApart.new {w : World} {e : Ent} {q B : Nat} {u : Value} {f : Fil} (he : FileAt w e) (hB : w.heap.size ≤ B) (hq : B ≤ q) (hu : ∀ k, u.ownBlock = some k → B ≤ k) : EApart ⟨q, u, f⟩ e ∧ EApart e ⟨q, u, f⟩ := by
  have h1 := he.1.lt
  have h2 : ∀ k, e.v.ownBlock = some k → k < w.heap.size := fun k hk => he.2.lt hk
  have h3 : ∀ k, e.v.ownBlock = some k → u.ownBlock ≠ some k := fun k hk x => by
    have := h2 k hk
    have := hu k x
    omega
  refine ⟨⟨by show q ≠ e.q; omega, ?_⟩, ⟨by show e.q ≠ q; omega, ?_⟩⟩
  · cases hk : u.ownBlock with
    | none => exact .inl rfl
    | some k =>
      right
      intro x
      exact h3 k (Eq.symm x) hk
  · cases hk : e.v.ownBlock with
    | none => exact .inl rfl
    | some k =>
      right
      intro x
      exact h3 k hk x.symm
theorem write_any (s : Nat) (fp : Option Nat) (z : Option FS) (d : DS) (S : Nat → Prop) (p : Path) (v : Value) (b : List UInt8) (w : World) (h : SimAt w s fp d S) (hz : FzAt w fp z) (hzo : zops z < 1099511627776)
    (hp : p.length ≤ maxLen) (hv : Bytes w v b) (hb : b.length ≤ 140737488351232) (ht : tot d.fs ≤ 1099511627776) (hn : d.fs.length ≤ 4096) :
    Calls Try.prog 17 #[.pointer (some ⟨s, 0, none⟩), .string (bstr p), v] w (SimOut s fp S w (writes z d p b)) := by
  obtain ⟨va, vc, rfl⟩ := hv.slice
  obtain ⟨m, es, h, hS1, hS2, hS3⟩ := h
  have H := Lib.hid h
  have HZ := Lib.hid hz
  have HV := Lib.hid hv
  have HS := Lib.hid (And.intro hS1 (And.intro hS2 (show ∀ b, fp = some b → ¬ S b ∧ b < w.heap.size from fun b hb => ⟨hS3 b hb, hz.lt b hb⟩)))
  have HP := Lib.hid hp
  have o1 := Strs.one w p
  have x1 : Ext w (w.alloc (.cells #[.string (bstr p)] 9)) := (Ext.refl w).alloc (Nat.le_refl _) _
  have c1 : Chg (fun _ => False) w (w.alloc (.cells #[.string (bstr p)] 9)) := Chg.of_ext x1 _
  have HA := Lib.hid (And.intro o1 (And.intro (h.chg c1 (fun _ _ h => h)) (And.intro (hz.chg c1 (fun _ _ h => h)) (And.intro x1 (hv.ext x1)))))
  clear h hz hv hp o1 x1 c1 hS1 hS2 hS3
  go_enter Try.func17, Try.ntmps17
  go_wp2_with fail
  refine (begin_any s m fp z es d [p] _ _ HA.out.2.1 HA.out.2.2.1 hzo (by simp) (fun q hq => by rw [List.mem_singleton.1 hq]; exact HP.out) HA.out.1).mono ?_; rintro e w2 ⟨rfl, hz2, h2, hg2, -⟩
  have HV2 := Lib.hid (Bytes.keep HA.out.2.2.2.2 hg2 (HA.out.2.1.nobytes HA.out.2.2.1))
  have HG2 := Lib.hid (Chg.after HA.out.2.2.2.1 hg2)
  have HZ2 := Lib.hid hz2
  have H2 := Lib.hid h2
  clear hz2 h2 hg2
  have hfs2 := begins_fs z d [p]
  have hmo2 := begins_most z d [p]
  obtain ⟨n, hnn⟩ : ∃ n, (begins z d [p]).1 = n := ⟨_, rfl⟩
  obtain ⟨z2, hzz⟩ : ∃ z2, (begins z d [p]).2.1 = z2 := ⟨_, rfl⟩
  obtain ⟨d2, hdd⟩ : ∃ d2, (begins z d [p]).2.2 = d2 := ⟨_, rfl⟩
  have HB := Lib.hid (show begins z d [p] = (n, z2, d2) by rw [← hnn, ← hzz, ← hdd])
  rw [hzz] at HZ2
  rw [hdd] at H2 hfs2 hmo2
  rw [hnn]
  have HFS := Lib.hid (And.intro hfs2 hmo2)
  clear hnn hzz hdd hfs2 hmo2
  by_cases h0 : n = 0
  case neg =>
    have q1 : ((n : Int) != 0) = true := by simp; omega
    have HW : Hid (writes z d p b = (n, z2, d2)) := Lib.hid (by unfold writes; rw [HB.out, if_pos h0])
    clear h0
    go_wp2_with fail
    go_ret
    rw [HW.out]
    exact ⟨rfl, HZ2.out, H2.out.simAt (fun b hb => .inl (HS.out.1 b hb)) HS.out.2.1 HS.out.2.2 HG2.out.size, HG2.out.mono fun b _ hb => by
      rcases hb with rfl | hb
      · exact .inl (HS.out.1 _ (.inl rfl))
      · exact .inr hb⟩
  subst h0
  have q1 : (((0 : Nat) : Int) != 0) = false := rfl
  by_cases hlong : 262144 < b.length
  · have q2 : (262144 : Int) < (b.length : Int) := by omega
    have HW : Hid (writes z d p b = (3, z2, d2)) := Lib.hid (by unfold writes; rw [HB.out, if_neg (by simp), if_pos hlong])
    clear hlong
    go_wp2_with fail
    go_ret
    rw [HW.out]
    exact ⟨rfl, HZ2.out, H2.out.simAt (fun b hb => .inl (HS.out.1 b hb)) HS.out.2.1 HS.out.2.2 HG2.out.size, HG2.out.mono fun b _ hb => by
      rcases hb with rfl | hb
      · exact .inl (HS.out.1 _ (.inl rfl))
      · exact .inr hb⟩
  have q2 : (b.length : Int) ≤ 262144 := by omega
  have c2 := H2.out.row.cell (i := 2) (v := .map (some m)) rfl
  have hl := H2.out.map.look p HP.out
  rw [qs_get] at hl
  have hlen := World.ownsMap.len H2.out.map Try.underlying75 3
  rw [Dm_size, show (qs es).length = es.length from mapv_length _ _] at hlen
  have hel : d.fs.length = es.length := by rw [H.out.fs]; exact mapv_length _ _
  have hn2 : es.length ≤ 4096 := by omega
  have HEL := Lib.hid hel
  have HW0 : Hid (writes z d p b = if d.most + olen p d.fs < tot d.fs + b.length ∨ 4096 < (if (get p d.fs).isSome then d.fs.length else d.fs.length + 1) then (8, z2, d2) else (0, z2, { d2 with fs := put p ⟨b, false⟩ d.fs })) := Lib.hid (by unfold writes; rw [HB.out, if_neg (by simp), if_neg hlong])
  clear hlong hel
  have rest : ∀ (w3 : World) (ol mn : Nat), olen p d.fs = ol → (if (get p d.fs).isSome then d.fs.length else d.fs.length + 1) = mn → Ext w2 w3 → True := fun _ _ _ _ _ _ => trivial
  clear rest
  cases hx : get p es with
  | none =>
    rw [hx] at hl
    have hg : get p d.fs = none := by rw [H.out.fs, fils_get, hx]; rfl
    have hol : olen p d.fs = 0 := by unfold olen; rw [hg]
    have HOL := Lib.hid hol
    have HMN : Hid ((if (get p d.fs).isSome then d.fs.length else d.fs.length + 1) = es.length + 1) := Lib.hid (by rw [hg, HEL.out]; rfl)
    have HX := Lib.hid hx
    clear hx hg hol
    go_wp2_with fail
    have X3 := Lib.hid (Ext.refl w2)
    have H3 := Lib.hid (H2.out.chg (Chg.of_ext X3.out (fun _ => False)) (fun _ _ h => h))
    have HV3 := Lib.hid (Cells.ext HV2.out X3.out)
    obtain ⟨M, hM⟩ : ∃ M, d2.most = M := ⟨_, rfl⟩
    obtain ⟨T, hT⟩ : ∃ T, tot d.fs = T := ⟨_, rfl⟩
    obtain ⟨Lb, hLb⟩ : ∃ Lb, b.length = Lb := ⟨_, rfl⟩
    have hole : 0 ≤ T := by rw [← hT, ← HOL.out]; exact olen_le _ _
    obtain ⟨r0, hr0⟩ : ∃ r0, T = r0 + 0 := ⟨T - 0, by omega⟩
    obtain ⟨r1, hr1⟩ : ∃ r1, r1 = r0 + Lb := ⟨_, rfl⟩
    have hMm : M ≤ 4194304 := by rw [← hM]; exact H2.out.nm
    have e1 : IntKind.i64.wrap (r0 : Int) = (r0 : Int) := by rw [IntKind.wrap_i64]; omega
    have e1' : (T : Int) - 0 = (r0 : Int) := by omega
    have e2 : IntKind.i64.wrap (r1 : Int) = (r1 : Int) := by rw [IntKind.wrap_i64]; omega
    have e2' : (r0 : Int) + (Lb : Int) = (r1 : Int) := by omega
    have USED : ∀ W, Ext w2 W → Calls Try.prog 24 #[.pointer (some ⟨s, 0, none⟩)] W fun e w' => e = .returned (.int .i64 (T : Int)) ∧ Hid (Ext w2 w') ∧ w'.cell? ⟨s, 0, none⟩ = some (.int .i64 (M : Int)) := fun W hW =>
      (used_any s m fp es d2 W (H3.out.chg (Chg.of_ext hW (fun _ => False)) (fun _ _ h => h)) (by rw [HFS.out.1]; exact ht)).mono fun e w' ⟨h1, h2⟩ => ⟨by rw [h1, HFS.out.1, hT], Lib.hid (Ext.trans hW h2), (by
        have := (H3.out.chg (Chg.of_ext (Ext.trans hW h2) (fun _ => False)) (fun _ _ h => h)).row.cell (i := 0) (v := .int .i64 d2.most) rfl
        rw [hM] at this
        exact this)⟩
    have USE := Lib.hid USED
    have x0 : Ext w2 (w2).drew := Ext.of_drawn _ 1
    have c0 := H3.out.row.cell (i := 0) (v := .int .i64 d2.most) rfl
    rw [hM] at c0
    have c0d : (w2).drew.cell? ⟨s, 0, none⟩ = some (.int .i64 (M : Int)) := c0
    rw [hLb]
    have HT := Lib.hid (And.intro hM (And.intro hT (And.intro hLb (And.intro hr0 hr1))))
    clear USED hM hT hLb hole hr0 hr1 hl hlen c2
    by_cases hA : M < r1
    · have qA : decide (M < r1) = true := by simpa using hA
      have HW : Hid (writes z d p b = (8, z2, d2)) := Lib.hid (by
        rw [HW0.out, if_pos]
        left
        rw [HOL.out, ← HFS.out.2, HT.out.1, HT.out.2.1, HT.out.2.2.1]
        have := HT.out.2.2.2
        omega)
      clear hA
      have hS : (fun w' : World => w'.cell? ⟨s, 0, none⟩ = some (.int .i64 (M : Int))) (w2).drew := c0d
      have hlS : ∀ wl : World, (fun w' : World => w'.cell? ⟨s, 0, none⟩ = some (.int .i64 (M : Int))) wl → wl.cell? ⟨s, 0, none⟩ = some (.int .i64 (M : Int)) ∧ True ∧ True ∧ True := fun wl h => ⟨h, trivial, trivial, trivial⟩
      refine wp_cutw [48, 49, 50, 51, 52, 53, 54, 55, 56, 57, 58, 59, 60, 61, 62] 63 (.bool true) (fun w8 => Ext w2 w8) ?_ ?_
      · refine wp_region_U (fun w' : World => w'.cell? ⟨s, 0, none⟩ = some (.int .i64 (M : Int))) 11 (by kernel_rfl) ?_
        refine wpU_pure (i := 0) (v := ?_) rfl (by kernel_rfl) (by kernel_rfl) (by kernel_rfl) (by decide) (fun _ _ _ h => h) (fun _ => hS) (Or.inl ⟨by rfl, fun _ _ => ?_⟩) ?_
        rotate_left
        · go_simp
          try with_reducible rfl
        try simp only [Act.put]
        refine wpU_pure (i := 2) (v := ?_) rfl (by kernel_rfl) (by kernel_rfl) (by kernel_rfl) (by decide) (fun _ _ _ h => h) (fun _ => hS) (Or.inl ⟨by rfl, fun _ _ => ?_⟩) ?_
        rotate_left
        · go_simp
          try with_reducible rfl
        try simp only [Act.put]
        refine wpU_pure (i := 4) (v := ?_) rfl (by kernel_rfl) (by kernel_rfl) (by kernel_rfl) (by decide) (fun _ _ _ h => h) (fun _ => hS) (Or.inl ⟨by rfl, fun _ _ => ?_⟩) ?_
        rotate_left
        · go_simp
          try with_reducible rfl
        try simp only [Act.put]
        refine wpU_pure (i := 5) (v := ?_) rfl (by kernel_rfl) (by kernel_rfl) (by kernel_rfl) (by decide) (fun _ _ _ h => h) (fun _ => hS) (Or.inl ⟨by rfl, fun _ _ => ?_⟩) ?_
        rotate_left
        · go_simp
          try with_reducible rfl
        try simp only [Act.put]
        refine wpU_pure (i := 7) (v := ?_) rfl (by kernel_rfl) (by kernel_rfl) (by kernel_rfl) (by decide) (fun _ _ _ h => h) (fun _ => hS) (Or.inl ⟨by rfl, fun _ _ => ?_⟩) ?_
        rotate_left
        · go_simp
          try with_reducible rfl
        try simp only [Act.put]
        refine wpU_pure (i := 8) (v := ?_) rfl (by kernel_rfl) (by kernel_rfl) (by kernel_rfl) (by decide) (fun _ _ _ h => h) (fun _ => hS) (Or.inl ⟨by rfl, fun _ _ => ?_⟩) ?_
        rotate_left
        · go_simp
          try with_reducible rfl
        try simp only [Act.put]
        refine wpU_pure (i := 9) (v := ?_) rfl (by kernel_rfl) (by kernel_rfl) (by kernel_rfl) (by decide) (fun _ _ _ h => h) (fun _ => hS) (Or.inl ⟨by rfl, fun _ _ => ?_⟩) ?_
        rotate_left
        · go_simp
          try with_reducible rfl
        try simp only [Act.put]
        refine wpU_load (i := 10) (v := ?_) rfl (by kernel_rfl) (by kernel_rfl) (by kernel_rfl) (by decide) (by kernel_rfl) (by kernel_rfl) (fun _ _ _ h => h) hS (Or.inl ⟨by rfl, fun wl hl => ?_⟩) ?_
        rotate_left
        · have hl2 := hlS wl hl
          obtain ⟨l1, l2, l3, l4⟩ := hl2
          go_simp
          try with_reducible rfl
        try simp only [Act.put]
        refine wpU_all [1] (by kernel_rfl) (by simp) ?_
        refine ReadyU.cons rfl (fun K hK => ?_) (ReadyU.nil)
        go_simp
        refine (USE.out _ x0).mono ?_; rintro e w4 ⟨rfl, hx4, c4⟩
        go_simp
        refine hK.out _ _ (fun _ => c4) ?_
        clear hK K
        have hS := c4
        refine wpU_pure (i := 3) (v := ?_) rfl (by kernel_rfl) (by kernel_rfl) (by kernel_rfl) (by decide) (fun _ _ _ h => h) (fun _ => hS) (Or.inl ⟨by rfl, fun _ _ => ?_⟩) ?_
        rotate_left
        · go_simp
          try with_reducible rfl
        try simp only [Act.put]
        refine wpU_pure (i := 6) (v := ?_) rfl (by kernel_rfl) (by kernel_rfl) (by kernel_rfl) (by decide) (fun _ _ _ h => h) (fun _ => hS) (Or.inl ⟨by rfl, fun _ _ => ?_⟩) ?_
        rotate_left
        · go_simp
          try with_reducible rfl
        try simp only [Act.put]
        refine wpU_all [11] (by kernel_rfl) (by simp) ?_
        refine ReadyU.cons rfl (fun K hK => ?_) (ReadyU.nil)
        go_simp
        refine hK.out _ _ (fun h => Bool.noConfusion (show true = false from h)) ?_
        clear hK K
        refine wpU_pure (i := 12) (v := ?_) rfl (by kernel_rfl) (by kernel_rfl) (by kernel_rfl) (by decide) (fun _ _ _ h => h) (fun h => Bool.noConfusion (show true = false from h)) (Or.inl ⟨by rfl, fun _ _ => ?_⟩) ?_
        rotate_left
        · go_simp
          try with_reducible rfl
        try simp only [Act.put]
        refine wpU_pure (i := 13) (v := undef) rfl (by kernel_rfl) (by kernel_rfl) (by kernel_rfl) (by decide) (fun _ _ _ h => h) (fun h => Bool.noConfusion (show true = false from h)) (Or.inr ⟨by kernel_rfl, rfl⟩) ?_
        try simp only [Act.put]
        refine wpU_pure (i := 14) (v := undef) rfl (by kernel_rfl) (by kernel_rfl) (by kernel_rfl) (by decide) (fun _ _ _ h => h) (fun h => Bool.noConfusion (show true = false from h)) (Or.inr ⟨by kernel_rfl, rfl⟩) ?_
        try simp only [Act.put]
        refine wpU_pure (i := 15) (v := ?_) rfl (by kernel_rfl) (by kernel_rfl) (by kernel_rfl) (by decide) (fun _ _ _ h => h) (fun h => Bool.noConfusion (show true = false from h)) (Or.inl ⟨by rfl, fun _ _ => ?_⟩) ?_
        rotate_left
        · go_simp
          try with_reducible rfl
        try simp only [Act.put]
        refine wpU_done (by kernel_rfl) ?_ _
        exact cut_end hx4.out (by kernel_rfl)
      · intro us w4 h4
        have X4 := Lib.hid (Ext.trans X3.out h4)
        clear h4 hS hlS c0 c0d x0
        simp only [setAll, List.foldl_cons, List.foldl_nil, List.set_cons_zero, List.set_cons_succ]
        go_wp2_with fail
        go_ret
        rw [HW.out]
        have H4 := H2.out.chg (Chg.of_ext X4.out (fun _ => False)) (fun _ _ h => h)
        have hg := HG2.out.trans (Chg.of_ext X4.out _)
        exact ⟨rfl, HZ2.out.chg (Chg.of_ext X4.out (fun _ => False)) (fun _ _ h => h), H4.simAt (fun b hb => .inl (HS.out.1 b hb)) HS.out.2.1 HS.out.2.2 hg.size, hg.mono fun b _ hb => by
          rcases hb with rfl | hb
          · exact .inl (HS.out.1 _ (.inl rfl))
          · exact .inr hb⟩
    · by_cases hmx : 4096 < es.length + 1
      · have HW : Hid (writes z d p b = (8, z2, d2)) := Lib.hid (by
          rw [HW0.out, if_pos]
          right
          rw [HMN.out]; exact hmx)
        have qm : decide (4096 < (es.length : Int) + 1) = true := by simp; omega
        have qm' : (4096 : Int) < (es.length : Int) + 1 := by omega
        have qA : decide (M < r1) = false := by simpa using hA
        clear hA hmx
        go_region_held3 (fun w' : World => w'.cell? ⟨s, 0, none⟩ = some (.int .i64 (M : Int))) (assumption) (first | (go_at_call 24; refine (USE.out _ x0).mono ?_; rintro e w4 ⟨rfl, hx4, c4⟩))
        have X4 := Lib.hid (Ext.trans X3.out hx4.out)
        clear hx4 c0 c0d x0 c4
        go_wp2_with fail
        go_ret
        rw [HW.out]
        have H4 := H2.out.chg (Chg.of_ext X4.out (fun _ => False)) (fun _ _ h => h)
        have hg := HG2.out.trans (Chg.of_ext X4.out _)
        exact ⟨rfl, HZ2.out.chg (Chg.of_ext X4.out (fun _ => False)) (fun _ _ h => h), H4.simAt (fun b hb => .inl (HS.out.1 b hb)) HS.out.2.1 HS.out.2.2 hg.size, hg.mono fun b _ hb => by
          rcases hb with rfl | hb
          · exact .inl (HS.out.1 _ (.inl rfl))
          · exact .inr hb⟩
      · have HW : Hid (writes z d p b = (0, z2, { d2 with fs := Dk.put p ⟨b, false⟩ d.fs })) := Lib.hid (by
          rw [HW0.out, if_neg]
          rw [HOL.out, ← HFS.out.2, HT.out.1, HT.out.2.1, HT.out.2.2.1, HMN.out]
          have := HT.out.2.2.2
          omega)
        have qm : decide (4096 < (es.length : Int) + 1) = false := by simp; omega
        have qm' : (es.length : Int) + 1 ≤ 4096 := by omega
        have qA : decide (M < r1) = false := by simpa using hA
        clear hA hmx
        go_region_held3 (fun w' : World => w'.cell? ⟨s, 0, none⟩ = some (.int .i64 (M : Int))) (assumption) (first | (go_at_call 24; refine (USE.out _ x0).mono ?_; rintro e w4 ⟨rfl, hx4, c4⟩))
        have X4 := Lib.hid (Ext.trans X3.out hx4.out)
        clear hx4 c0 c0d x0 c4
        have H4 := Lib.hid (H2.out.chg (Chg.of_ext X4.out (fun _ => False)) (fun _ _ h => h))
        have HV4 := Lib.hid (Cells.ext HV2.out X4.out)
        rw [HT.out.2.2.1] at HV4
        have c2 := H4.out.row.cell (i := 2) (v := .map (some m)) rfl
        have qn : ∀ W : World, (binOp .eql 75 (.map (some m)) (.map none)).run Try.prog W = .ok (.bool (some m).isNone) W := fun W => run_eql_map_nil W 75 _ _ (some m) Try.underlying75
        have CL : ∀ W, Ext w4 W → Calls Try.prog 38 #[.slice va Lb vc] W fun e w5 => ∃ ua uc w6, e = .returned (.slice ua Lb uc) ∧ w5.cell? ⟨s, 2, none⟩ = some (.map (some m)) ∧ (w5.alloc (.cells #[.slice ua Lb uc, .bool false] 82)).cell? ⟨s, 2, none⟩ = some (.map (some m)) ∧
            (Instr.mapUpdate 75 (.map (some m)) (.string (bstr p)) (.pointer (some ⟨w5.heap.size, 0, none⟩))).run Try.prog (w5.alloc (.cells #[.slice ua Lb uc, .bool false] 82)) = .ok () w6 ∧ w6.cell? ⟨s, 2, none⟩ = some (.map (some m)) ∧
            Hid (SimOut s fp S w (0, z2, { d2 with fs := Dk.put p ⟨b, false⟩ d.fs }) (.returned (.int .i64 0)) w6) := fun W hW =>
          (bclone_own _ b (by omega) W (HT.out.2.2.1 ▸ HV4.out.ext hW)).mono fun e w5 ⟨u, h1, h2, h3⟩ => by
            obtain ⟨ua, uc, hu⟩ := Own.slice' h2
            rw [bvs_len, HT.out.2.2.1] at hu
            subst hu
            obtain ⟨u, hu⟩ : ∃ u, Value.slice ua Lb uc = u := ⟨_, rfl⟩
            rw [hu] at h1 h2
            have x5 := Ext.trans hW h3
            have x6 : Ext w5 (w5.alloc (.cells #[u, .bool false] 82)) := (Ext.refl w5).alloc (Nat.le_refl _) _
            have x7 := Ext.trans x5 x6
            have h7 := H4.out.chg (Chg.of_ext x7 (fun _ => False)) (fun _ _ h => h)
            have hlq : (qs es).length = es.length := mapv_length _ _
            obtain ⟨w6, k1, k2, k3, k4⟩ := h7.map.put p HP.out w5.heap.size (by rw [hlq]; omega)
            have hb4 : w4.heap.size ≤ W.heap.size := hW.size
            have hB : w.heap.size ≤ w4.heap.size := Nat.le_trans HG2.out.size X4.out.size
            have hr := h7.put (f := ⟨b, false⟩) (u := u) p (Row.new w5 82 #[u, .bool false]) ((h2.ext x6).mono (Nat.zero_le _)) (fun e he => EApart.new (B := W.heap.size) (H4.out.file e he) hb4 h3.size (fun k hk => h2.block k hk)) k2 k3
            have hs6 : (w5.alloc (.cells #[u, .bool false] 82)).heap.size = w5.heap.size + 1 := by simp
            have hg : Chg (fun b => b = s ∨ fp = some b ∨ b = m) w w6 := ((HG2.out.mono fun b _ hb => hb.elim .inl fun h => .inr (.inl h)).trans (Chg.of_ext (Ext.trans X4.out x7) _)).grown k3 (fun k hk => .inl (.inr (.inr (Option.some.inj hk).symm)))
            rw [← hu] at h1
            refine ⟨ua, uc, w6, h1, x5.cell c2, hu ▸ x7.cell c2, hu ▸ k1, hr.row.cell (i := 2) (v := .map (some m)) rfl, Lib.hid ⟨rfl, ?_, ?_, ?_⟩⟩
            · have hz7 := HZ2.out.chg (Chg.of_ext (Ext.trans X4.out x7) (fun _ => False)) (fun _ _ h => h)
              exact hz7.chg (S := fun b => b = m) ((Chg.refl _ _).grown k3 (fun k hk => .inl (Option.some.inj hk).symm)) (fun b hb e => h7.fuse hz7 m (.inr (.inl rfl)) (by rw [hb, e]))
            · rw [HFS.out.1] at hr
              refine hr.simAt (fun b hb => ?_) HS.out.2.1 HS.out.2.2 hg.size
              rcases hb with rfl | rfl | ⟨e, he, hb⟩
              · exact .inl (HS.out.1 _ (.inl rfl))
              · exact .inl (HS.out.1 _ (.inr (.inl rfl)))
              · rcases mem_put.1 he with rfl | ⟨he, -⟩
                · rcases hb with rfl | hb
                  · refine .inr ⟨?_, ?_⟩
                    · show w.heap.size ≤ w5.heap.size; have := h3.size; omega
                    · show w5.heap.size < w6.heap.size; rw [k4, hs6]; omega
                  · have l1 := h2.block _ hb
                    have l2 := h2.lt hb
                    exact .inr ⟨by omega, by rw [k4, hs6]; omega⟩
                · exact .inl (HS.out.1 _ (.inr (.inr ⟨e, he, hb⟩)))
            · exact hg.mono fun b _ hb => by
                rcases hb with rfl | hb | rfl
                · exact .inl (HS.out.1 _ (.inl rfl))
                · exact .inr hb
                · exact .inl (HS.out.1 _ (.inr (.inl rfl)))
        have CLH := Lib.hid CL
        clear CL
        go_wp2_with fail
        have x0 : Ext w4 w4.drew := Ext.of_drawn _ 1
        have c2d : (fun w' : World => w'.cell? ⟨s, 2, none⟩ = some (.map (some m))) w4.drew := c2
        go_region_held3 (fun w' : World => w'.cell? ⟨s, 2, none⟩ = some (.map (some m))) (assumption) (first | (go_at_call 38; refine (CLH.out _ x0).mono ?_; rintro e w5 ⟨ua, uc, w6, rfl, k1, k2, k3, k4, hfin⟩))
        clear k1 k2 k3 k4 c2 c2d qn
        go_wp2_with fail
        go_ret
        rw [HW.out]
        exact hfin.out
  | some x =>
    rw [hx] at hl
    have hg : get p d.fs = some x.f := by rw [H.out.fs, fils_get, hx]; rfl
    have hol : olen p d.fs = x.f.b.length := by unfold olen; rw [hg]
    have HOL := Lib.hid hol
    have HMN : Hid ((if (get p d.fs).isSome then d.fs.length else d.fs.length + 1) = es.length) := Lib.hid (by rw [hg, HEL.out]; rfl)
    have hfile := (H2.out.file _ (get_mem hx))
    have c5 := hfile.1.cell (i := 0) (v := x.v) rfl
    obtain ⟨xa, xc, hv⟩ := Own.slice' hfile.2
    rw [bvs_len] at hv
    rw [hv] at c5
    have HX := Lib.hid hx
    obtain ⟨n0, hn0⟩ : ∃ n0, x.f.b.length = n0 := ⟨_, rfl⟩
    rw [hn0] at c5
    have HN0 := Lib.hid hn0
    have S0 : (fun w' : World => w'.cell? ⟨x.q, 0, none⟩ = some (.slice xa n0 xc) ∧ w'.cell? ⟨s, 2, none⟩ = some (.map (some m)) ∧ (Builtin.len_ #[75] 3 #[.map (some m)]).run Try.prog w' = .ok (.int .i64 es.length) w') w2.drew := ⟨c5, c2, by
      have := World.ownsMap.len (H2.out.chg (Chg.of_ext (Ext.of_drawn w2 1) (fun _ => False)) (fun _ _ h => h)).map Try.underlying75 3
      rw [Dm_size, show (qs es).length = es.length from mapv_length _ _] at this
      exact this⟩
    clear hx hg hol hv hfile hn0
    go_wp2_with fail
    go_region_held3 (fun w' : World => w'.cell? ⟨x.q, 0, none⟩ = some (.slice xa n0 xc) ∧ w'.cell? ⟨s, 2, none⟩ = some (.map (some m)) ∧ (Builtin.len_ #[75] 3 #[.map (some m)]).run Try.prog w' = .ok (.int .i64 es.length) w') (assumption) (fail)
    have X3 := Lib.hid (Ext.of_drawn w2 1)
    change Exit.then _ _ _ _ (w2.drewN 1)
    generalize w2.drewN 1 = w3 at X3 ⊢
    rw [HN0.out] at HOL
    go_wp2_with fail
    have H3 := Lib.hid (H2.out.chg (Chg.of_ext X3.out (fun _ => False)) (fun _ _ h => h))
    have HV3 := Lib.hid (Cells.ext HV2.out X3.out)
    obtain ⟨M, hM⟩ : ∃ M, d2.most = M := ⟨_, rfl⟩
    obtain ⟨T, hT⟩ : ∃ T, tot d.fs = T := ⟨_, rfl⟩
    obtain ⟨Lb, hLb⟩ : ∃ Lb, b.length = Lb := ⟨_, rfl⟩
    have hole : n0 ≤ T := by rw [← hT, ← HOL.out]; exact olen_le _ _
    obtain ⟨r0, hr0⟩ : ∃ r0, T = r0 + n0 := ⟨T - n0, by omega⟩
    obtain ⟨r1, hr1⟩ : ∃ r1, r1 = r0 + Lb := ⟨_, rfl⟩
    have hMm : M ≤ 4194304 := by rw [← hM]; exact H2.out.nm
    have e1 : IntKind.i64.wrap (r0 : Int) = (r0 : Int) := by rw [IntKind.wrap_i64]; omega
    have e1' : (T : Int) - (n0 : Int) = (r0 : Int) := by omega
    have e2 : IntKind.i64.wrap (r1 : Int) = (r1 : Int) := by rw [IntKind.wrap_i64]; omega
    have e2' : (r0 : Int) + (Lb : Int) = (r1 : Int) := by omega
    have USED : ∀ W, Ext w3 W → Calls Try.prog 24 #[.pointer (some ⟨s, 0, none⟩)] W fun e w' => e = .returned (.int .i64 (T : Int)) ∧ Hid (Ext w3 w') ∧ w'.cell? ⟨s, 0, none⟩ = some (.int .i64 (M : Int)) := fun W hW =>
      (used_any s m fp es d2 W (H3.out.chg (Chg.of_ext hW (fun _ => False)) (fun _ _ h => h)) (by rw [HFS.out.1]; exact ht)).mono fun e w' ⟨h1, h2⟩ => ⟨by rw [h1, HFS.out.1, hT], Lib.hid (Ext.trans hW h2), (by
        have := (H3.out.chg (Chg.of_ext (Ext.trans hW h2) (fun _ => False)) (fun _ _ h => h)).row.cell (i := 0) (v := .int .i64 d2.most) rfl
        rw [hM] at this
        exact this)⟩
    have USE := Lib.hid USED
    have x0 : Ext w3 (w3).drew := Ext.of_drawn _ 1
    have c0 := H3.out.row.cell (i := 0) (v := .int .i64 d2.most) rfl
    rw [hM] at c0
    have c0d : (w3).drew.cell? ⟨s, 0, none⟩ = some (.int .i64 (M : Int)) := c0
    rw [hLb]
    have HT := Lib.hid (And.intro hM (And.intro hT (And.intro hLb (And.intro hr0 hr1))))
    clear USED hM hT hLb hole hr0 hr1 hl hlen c2 c5 S0
    by_cases hA : M < r1
    · have qA : decide (M < r1) = true := by simpa using hA
      have HW : Hid (writes z d p b = (8, z2, d2)) := Lib.hid (by
        rw [HW0.out, if_pos]
        left
        rw [HOL.out, ← HFS.out.2, HT.out.1, HT.out.2.1, HT.out.2.2.1]
        have := HT.out.2.2.2
        omega)
      clear hA
      have hS : (fun w' : World => w'.cell? ⟨s, 0, none⟩ = some (.int .i64 (M : Int))) (w3).drew := c0d
      have hlS : ∀ wl : World, (fun w' : World => w'.cell? ⟨s, 0, none⟩ = some (.int .i64 (M : Int))) wl → wl.cell? ⟨s, 0, none⟩ = some (.int .i64 (M : Int)) ∧ True ∧ True ∧ True := fun wl h => ⟨h, trivial, trivial, trivial⟩
      refine wp_cutw [48, 49, 50, 51, 52, 53, 54, 55, 56, 57, 58, 59, 60, 61, 62] 63 (.bool true) (fun w8 => Ext w3 w8) ?_ ?_
      · refine wp_region_U (fun w' : World => w'.cell? ⟨s, 0, none⟩ = some (.int .i64 (M : Int))) 11 (by kernel_rfl) ?_
        refine wpU_pure (i := 0) (v := ?_) rfl (by kernel_rfl) (by kernel_rfl) (by kernel_rfl) (by decide) (fun _ _ _ h => h) (fun _ => hS) (Or.inl ⟨by rfl, fun _ _ => ?_⟩) ?_
        rotate_left
        · go_simp
          try with_reducible rfl
        try simp only [Act.put]
        refine wpU_pure (i := 2) (v := ?_) rfl (by kernel_rfl) (by kernel_rfl) (by kernel_rfl) (by decide) (fun _ _ _ h => h) (fun _ => hS) (Or.inl ⟨by rfl, fun _ _ => ?_⟩) ?_
        rotate_left
        · go_simp
          try with_reducible rfl
        try simp only [Act.put]
        refine wpU_pure (i := 4) (v := ?_) rfl (by kernel_rfl) (by kernel_rfl) (by kernel_rfl) (by decide) (fun _ _ _ h => h) (fun _ => hS) (Or.inl ⟨by rfl, fun _ _ => ?_⟩) ?_
        rotate_left
        · go_simp
          try with_reducible rfl
        try simp only [Act.put]
        refine wpU_pure (i := 5) (v := ?_) rfl (by kernel_rfl) (by kernel_rfl) (by kernel_rfl) (by decide) (fun _ _ _ h => h) (fun _ => hS) (Or.inl ⟨by rfl, fun _ _ => ?_⟩) ?_
        rotate_left
        · go_simp
          try with_reducible rfl
        try simp only [Act.put]
        refine wpU_pure (i := 7) (v := ?_) rfl (by kernel_rfl) (by kernel_rfl) (by kernel_rfl) (by decide) (fun _ _ _ h => h) (fun _ => hS) (Or.inl ⟨by rfl, fun _ _ => ?_⟩) ?_
        rotate_left
        · go_simp
          try with_reducible rfl
        try simp only [Act.put]
        refine wpU_pure (i := 8) (v := ?_) rfl (by kernel_rfl) (by kernel_rfl) (by kernel_rfl) (by decide) (fun _ _ _ h => h) (fun _ => hS) (Or.inl ⟨by rfl, fun _ _ => ?_⟩) ?_
        rotate_left
        · go_simp
          try with_reducible rfl
        try simp only [Act.put]
        refine wpU_pure (i := 9) (v := ?_) rfl (by kernel_rfl) (by kernel_rfl) (by kernel_rfl) (by decide) (fun _ _ _ h => h) (fun _ => hS) (Or.inl ⟨by rfl, fun _ _ => ?_⟩) ?_
        rotate_left
        · go_simp
          try with_reducible rfl
        try simp only [Act.put]
        refine wpU_load (i := 10) (v := ?_) rfl (by kernel_rfl) (by kernel_rfl) (by kernel_rfl) (by decide) (by kernel_rfl) (by kernel_rfl) (fun _ _ _ h => h) hS (Or.inl ⟨by rfl, fun wl hl => ?_⟩) ?_
        rotate_left
        · have hl2 := hlS wl hl
          obtain ⟨l1, l2, l3, l4⟩ := hl2
          go_simp
          try with_reducible rfl
        try simp only [Act.put]
        refine wpU_all [1] (by kernel_rfl) (by simp) ?_
        refine ReadyU.cons rfl (fun K hK => ?_) (ReadyU.nil)
        go_simp
        refine (USE.out _ x0).mono ?_; rintro e w4 ⟨rfl, hx4, c4⟩
        go_simp
        refine hK.out _ _ (fun _ => c4) ?_
        clear hK K
        have hS := c4
        refine wpU_pure (i := 3) (v := ?_) rfl (by kernel_rfl) (by kernel_rfl) (by kernel_rfl) (by decide) (fun _ _ _ h => h) (fun _ => hS) (Or.inl ⟨by rfl, fun _ _ => ?_⟩) ?_
        rotate_left
        · go_simp
          try with_reducible rfl
        try simp only [Act.put]
        refine wpU_pure (i := 6) (v := ?_) rfl (by kernel_rfl) (by kernel_rfl) (by kernel_rfl) (by decide) (fun _ _ _ h => h) (fun _ => hS) (Or.inl ⟨by rfl, fun _ _ => ?_⟩) ?_
        rotate_left
        · go_simp
          try with_reducible rfl
        try simp only [Act.put]
        refine wpU_all [11] (by kernel_rfl) (by simp) ?_
        refine ReadyU.cons rfl (fun K hK => ?_) (ReadyU.nil)
        go_simp
        refine hK.out _ _ (fun h => Bool.noConfusion (show true = false from h)) ?_
        clear hK K
        refine wpU_pure (i := 12) (v := ?_) rfl (by kernel_rfl) (by kernel_rfl) (by kernel_rfl) (by decide) (fun _ _ _ h => h) (fun h => Bool.noConfusion (show true = false from h)) (Or.inl ⟨by rfl, fun _ _ => ?_⟩) ?_
        rotate_left
        · go_simp
          try with_reducible rfl
        try simp only [Act.put]
        refine wpU_pure (i := 13) (v := undef) rfl (by kernel_rfl) (by kernel_rfl) (by kernel_rfl) (by decide) (fun _ _ _ h => h) (fun h => Bool.noConfusion (show true = false from h)) (Or.inr ⟨by kernel_rfl, rfl⟩) ?_
        try simp only [Act.put]
        refine wpU_pure (i := 14) (v := undef) rfl (by kernel_rfl) (by kernel_rfl) (by kernel_rfl) (by decide) (fun _ _ _ h => h) (fun h => Bool.noConfusion (show true = false from h)) (Or.inr ⟨by kernel_rfl, rfl⟩) ?_
        try simp only [Act.put]
        refine wpU_pure (i := 15) (v := ?_) rfl (by kernel_rfl) (by kernel_rfl) (by kernel_rfl) (by decide) (fun _ _ _ h => h) (fun h => Bool.noConfusion (show true = false from h)) (Or.inl ⟨by rfl, fun _ _ => ?_⟩) ?_
        rotate_left
        · go_simp
          try with_reducible rfl
        try simp only [Act.put]
        refine wpU_done (by kernel_rfl) ?_ _
        exact cut_end hx4.out (by kernel_rfl)
      · intro us w4 h4
        have X4 := Lib.hid (Ext.trans X3.out h4)
        clear h4 hS hlS c0 c0d x0
        simp only [setAll, List.foldl_cons, List.foldl_nil, List.set_cons_zero, List.set_cons_succ]
        go_wp2_with fail
        go_ret
        rw [HW.out]
        have H4 := H2.out.chg (Chg.of_ext X4.out (fun _ => False)) (fun _ _ h => h)
        have hg := HG2.out.trans (Chg.of_ext X4.out _)
        exact ⟨rfl, HZ2.out.chg (Chg.of_ext X4.out (fun _ => False)) (fun _ _ h => h), H4.simAt (fun b hb => .inl (HS.out.1 b hb)) HS.out.2.1 HS.out.2.2 hg.size, hg.mono fun b _ hb => by
          rcases hb with rfl | hb
          · exact .inl (HS.out.1 _ (.inl rfl))
          · exact .inr hb⟩
    · have HW : Hid (writes z d p b = (0, z2, { d2 with fs := Dk.put p ⟨b, false⟩ d.fs })) := Lib.hid (by
        rw [HW0.out, if_neg]
        rw [HOL.out, ← HFS.out.2, HT.out.1, HT.out.2.1, HT.out.2.2.1, HMN.out]
        have := HT.out.2.2.2
        omega)
      have qm : decide (4096 < es.length) = false := by simp; omega
      have qA : decide (M < r1) = false := by simpa using hA
      clear hA 
      go_region_held3 (fun w' : World => w'.cell? ⟨s, 0, none⟩ = some (.int .i64 (M : Int))) (assumption) (first | (go_at_call 24; refine (USE.out _ x0).mono ?_; rintro e w4 ⟨rfl, hx4, c4⟩))
      have X4 := Lib.hid (Ext.trans X3.out hx4.out)
      clear hx4 c0 c0d x0 c4
      have H4 := Lib.hid (H2.out.chg (Chg.of_ext X4.out (fun _ => False)) (fun _ _ h => h))
      have HV4 := Lib.hid (Cells.ext HV2.out X4.out)
      rw [HT.out.2.2.1] at HV4
      have c2 := H4.out.row.cell (i := 2) (v := .map (some m)) rfl
      have qn : ∀ W : World, (binOp .eql 75 (.map (some m)) (.map none)).run Try.prog W = .ok (.bool (some m).isNone) W := fun W => run_eql_map_nil W 75 _ _ (some m) Try.underlying75
      have CL : ∀ W, Ext w4 W → Calls Try.prog 38 #[.slice va Lb vc] W fun e w5 => ∃ ua uc w6, e = .returned (.slice ua Lb uc) ∧ w5.cell? ⟨s, 2, none⟩ = some (.map (some m)) ∧ (w5.alloc (.cells #[.slice ua Lb uc, .bool false] 82)).cell? ⟨s, 2, none⟩ = some (.map (some m)) ∧
          (Instr.mapUpdate 75 (.map (some m)) (.string (bstr p)) (.pointer (some ⟨w5.heap.size, 0, none⟩))).run Try.prog (w5.alloc (.cells #[.slice ua Lb uc, .bool false] 82)) = .ok () w6 ∧ w6.cell? ⟨s, 2, none⟩ = some (.map (some m)) ∧
          Hid (SimOut s fp S w (0, z2, { d2 with fs := Dk.put p ⟨b, false⟩ d.fs }) (.returned (.int .i64 0)) w6) := fun W hW =>
        (bclone_own _ b (by omega) W (HT.out.2.2.1 ▸ HV4.out.ext hW)).mono fun e w5 ⟨u, h1, h2, h3⟩ => by
          obtain ⟨ua, uc, hu⟩ := Own.slice' h2
          rw [bvs_len, HT.out.2.2.1] at hu
          subst hu
          obtain ⟨u, hu⟩ : ∃ u, Value.slice ua Lb uc = u := ⟨_, rfl⟩
          rw [hu] at h1 h2
          have x5 := Ext.trans hW h3
          have x6 : Ext w5 (w5.alloc (.cells #[u, .bool false] 82)) := (Ext.refl w5).alloc (Nat.le_refl _) _
          have x7 := Ext.trans x5 x6
          have h7 := H4.out.chg (Chg.of_ext x7 (fun _ => False)) (fun _ _ h => h)
          have hlq : (qs es).length = es.length := mapv_length _ _
          obtain ⟨w6, k1, k2, k3, k4⟩ := h7.map.put p HP.out w5.heap.size (by rw [hlq]; omega)
          have hb4 : w4.heap.size ≤ W.heap.size := hW.size
          have hB : w.heap.size ≤ w4.heap.size := Nat.le_trans HG2.out.size X4.out.size
          have hr := h7.put (f := ⟨b, false⟩) (u := u) p (Row.new w5 82 #[u, .bool false]) ((h2.ext x6).mono (Nat.zero_le _)) (fun e he => EApart.new (B := W.heap.size) (H4.out.file e he) hb4 h3.size (fun k hk => h2.block k hk)) k2 k3
          have hs6 : (w5.alloc (.cells #[u, .bool false] 82)).heap.size = w5.heap.size + 1 := by simp
          have hg : Chg (fun b => b = s ∨ fp = some b ∨ b = m) w w6 := ((HG2.out.mono fun b _ hb => hb.elim .inl fun h => .inr (.inl h)).trans (Chg.of_ext (Ext.trans X4.out x7) _)).grown k3 (fun k hk => .inl (.inr (.inr (Option.some.inj hk).symm)))
          rw [← hu] at h1
          refine ⟨ua, uc, w6, h1, x5.cell c2, hu ▸ x7.cell c2, hu ▸ k1, hr.row.cell (i := 2) (v := .map (some m)) rfl, Lib.hid ⟨rfl, ?_, ?_, ?_⟩⟩
          · have hz7 := HZ2.out.chg (Chg.of_ext (Ext.trans X4.out x7) (fun _ => False)) (fun _ _ h => h)
            exact hz7.chg (S := fun b => b = m) ((Chg.refl _ _).grown k3 (fun k hk => .inl (Option.some.inj hk).symm)) (fun b hb e => h7.fuse hz7 m (.inr (.inl rfl)) (by rw [hb, e]))
          · rw [HFS.out.1] at hr
            refine hr.simAt (fun b hb => ?_) HS.out.2.1 HS.out.2.2 hg.size
            rcases hb with rfl | rfl | ⟨e, he, hb⟩
            · exact .inl (HS.out.1 _ (.inl rfl))
            · exact .inl (HS.out.1 _ (.inr (.inl rfl)))
            · rcases mem_put.1 he with rfl | ⟨he, -⟩
              · rcases hb with rfl | hb
                · refine .inr ⟨?_, ?_⟩
                  · show w.heap.size ≤ w5.heap.size; have := h3.size; omega
                  · show w5.heap.size < w6.heap.size; rw [k4, hs6]; omega
                · have l1 := h2.block _ hb
                  have l2 := h2.lt hb
                  exact .inr ⟨by omega, by rw [k4, hs6]; omega⟩
              · exact .inl (HS.out.1 _ (.inr (.inr ⟨e, he, hb⟩)))
          · exact hg.mono fun b _ hb => by
              rcases hb with rfl | hb | rfl
              · exact .inl (HS.out.1 _ (.inl rfl))
              · exact .inr hb
              · exact .inl (HS.out.1 _ (.inr (.inl rfl)))
      have CLH := Lib.hid CL
      clear CL
      go_wp2_with fail
      have x0 : Ext w4 w4.drew := Ext.of_drawn _ 1
      have c2d : (fun w' : World => w'.cell? ⟨s, 2, none⟩ = some (.map (some m))) w4.drew := c2
      go_region_held3 (fun w' : World => w'.cell? ⟨s, 2, none⟩ = some (.map (some m))) (assumption) (first | (go_at_call 38; refine (CLH.out _ x0).mono ?_; rintro e w5 ⟨ua, uc, w6, rfl, k1, k2, k3, k4, hfin⟩))
      clear k1 k2 k3 k4 c2 c2d qn
      go_wp2_with fail
      go_ret
      rw [HW.out]
      exact hfin.out
end Go.Proofs.Ytnphkddhckcpmaa
