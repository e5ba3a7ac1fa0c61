/-
  The reference's disk: List; its disk and its fuse as things of their own.
  Both: what is done on both disks is answered alike.
  The reference's disk: Crash.
-/
import Derived.Test.YthkbbcdnmdjhdaaGreatD5
/-! XRfG: The reference's disk: List; its disk and its fuse as things of their own. -/
namespace Go.Proofs.YthkbbcdnmdjhdaaGreat
open Go.RowKit Dk
set_option maxRecDepth 100000
set_option maxHeartbeats 4000000
attribute [local go_sem] min_int2 max_int2 bstr_toList bstr_size

def RListOut (r : Nat) (rf : Option Nat) (z : Option FS) (d : DS) (S : Nat → Prop) (p : Path) (w : World) (e : Ending) (w' : World) : Prop :=
  ∃ u, e = .returned (.tuple #[u, .int .i64 ((begins z d []).1 : Nat)]) ∧ Own w' w.heap.size 9 u (pvs (lists z d p)) ∧ RzAt w' rf (begins z d []).2.1 ∧ RefAt w' r rf (begins z d []).2.2 S ∧ Chg (fun b => S b ∨ rf = some b) w w'
theorem rlist_any (r : Nat) (rf : Option Nat) (z : Option FS) (d : DS) (S : Nat → Prop) (p : Path) (w : World) (h : RefAt w r rf d S) (hz : RzAt w rf z) (hzo : zops z < 1099511627776) (hn : d.fs.length ≤ 4096) :
    Calls Tryz.prog 110 #[.pointer (some ⟨r, 0, none⟩), .string (bstr p)] w (RListOut r rf z d S p w) := by
  obtain ⟨lv, es, h, hS1, hS2, hS3⟩ := h
  have H := Lib.hid (And.intro h hz)
  have HS := Lib.hid (And.intro hS1 (And.intro hS2 (And.intro hS3 (fun b hb => hz.lt b hb))))
  have hlen : es.length ≤ 4096 := by have h1 := h.fs; rw [h1] at hn; simpa [rfils, mapv_length] using hn
  have HFS := Lib.hid h.fs
  clear h hz hS1 hS2 hS3
  go_enter Tryz.func110, Tryz.ntmps110
  go_wp2_with fail
  refine (ask_any r rf z lv es d [] _ _ H.out.1 H.out.2 hzo (by simp) (by simp) (Own.nil _ _ _)).mono ?_; rintro e w2 ⟨rfl, hz2, h2, hg2, hsz2⟩
  have HG2 := Lib.hid (hg2.mono (T := fun b => S b ∨ rf = some b) fun b _ hb => by
    rcases hb with rfl | hb
    · exact .inl (HS.out.1 _ (.inl rfl))
    · exact .inr hb)
  have HZ2 := Lib.hid hz2
  have H2 := Lib.hid h2
  clear hz2 h2 hg2 hsz2
  obtain ⟨n, hnn⟩ : ∃ n, (begins z d []).1 = n := ⟨_, rfl⟩
  rw [hnn]
  have HN := Lib.hid hnn
  clear hnn
  by_cases h0 : n = 0
  case neg =>
    have q1 : ((n : Int) != 0) = true := by simp; omega
    have HL := Lib.hid (show lists z d p = [] by unfold lists; rw [HN.out, if_neg h0])
    clear h0
    go_wp2_with fail
    go_ret2
    exact ⟨.slice none 0 0, by rw [HN.out]; rfl, by rw [HL.out]; exact Own.nil _ _ _, HZ2.out, H2.out.refAt' HS.out.1 HS.out.2.1 HS.out.2.2.1 HG2.out.size, HG2.out⟩
  subst h0
  have q1 : (((0 : Nat) : Int) != 0) = false := rfl
  have HL := Lib.hid (show lists z d p = having p (paths es) by unfold lists; rw [HN.out, if_pos rfl, HFS.out]; unfold paths rfils mapv; rw [List.map_map]; rfl)
  obtain ⟨la, lc, hlv⟩ := H2.out.lst.slice
  subst hlv
  obtain ⟨m, hm⟩ : ∃ m, es.length = m := ⟨_, rfl⟩
  rw [hm] at hlen
  have HM := Lib.hid hm
  clear hm
  go_wp2_with fail
  go_loopw [7, 8] (fun v7 v8 wr => ∃ (i : Nat) (ps : List Path) (a : Option Addr) (c : Nat), i ≤ m ∧ v8 = .int .i64 (i : Nat) ∧ v7 = .slice a ps.length c ∧ Hid (ps = having p ((paths es).take i)) ∧ Hid (Own wr w2.heap.size 9 (.slice a ps.length c) (pvs ps)) ∧ Hid (Ext w2 wr)) (fun _ v8 _ => (m - intOf v8).toNat)
  case atStart => exact ⟨0, [], _, _, by omega, rfl, rfl, Lib.hid rfl, Lib.hid (Own.nil _ _ _), Lib.hid (Ext.refl _)⟩
  case round =>
    obtain ⟨i, ps, a, c, hi, rfl, rfl, HP, HO, HE⟩ := hrel
    have c0 : wr.cell? ⟨r, 0, none⟩ = some (.slice la m lc) := by rw [← HM.out]; exact (H2.out.ext HE.out).row.cell (i := 0) rfl
    by_cases hlt : i < m
    · have hlt' : (i : Int) < (m : Int) := by omega
      obtain ⟨g, cap, hlv, hcap, d1, -, -, -⟩ := (H2.out.ext HE.out).entry (i := i) (by rw [HM.out]; exact hlt)
      cases hlv
      obtain ⟨q, hq⟩ : ∃ q, (es[i]'(by rw [HM.out]; exact hlt)).1 = q := ⟨_, rfl⟩
      rw [hq] at d1
      have hpi : (paths es)[i]? = some q := by unfold paths; rw [List.getElem?_map, List.getElem?_eq_getElem (by rw [HM.out]; exact hlt)]; simp [hq]
      have hst : having p ((paths es).take (i + 1)) = ps ++ (if p.isPrefixOf q then [q] else []) := by
        rw [HP.out]
        unfold having
        rw [List.take_add_one, List.filter_append, hpi]
        simp only [Option.toList_some, List.filter_cons, List.filter_nil]
      have hpl : ps.length ≤ 4096 := by
        have e1 : ps.length ≤ ((paths es).take i).length := by rw [HP.out]; exact List.length_filter_le _ _
        have e2 := List.length_take_le i (paths es)
        omega
      have HD1 := Lib.hid d1
      have HST := Lib.hid hst
      clear hq hpi hst
      go_wp2_with fail
      refine (rprefix_any q p _).mono ?_; rintro e w3 ⟨rfl, x3⟩
      have HE3 := Lib.hid (Ext.trans HE.out x3)
      have HO3 := Lib.hid (Own.ext HO.out x3)
      replace c0 := x3.cell c0
      replace d1 := x3.cell HD1.out
      clear x3
      cases hpq : p.isPrefixOf q with
      | false =>
        have HP2 := Lib.hid (show ps = having p ((paths es).take (i + 1)) by rw [HST.out, hpq]; simp)
        clear hpq
        go_wp2_with fail
        exact ⟨⟨i + 1, ps, a, c, by omega, by go_num, rfl, HP2, HO3, HE3⟩, by simp [intOf]; omega⟩
      | true =>
        have HP2 := Lib.hid (show ps ++ [q] = having p ((paths es).take (i + 1)) by rw [HST.out, hpq]; simp)
        clear hpq
        have x4 : Ext w3 (w3.alloc (.cells #[.string (bstr q)] 9)) := (Ext.refl w3).alloc (Nat.le_refl _) _
        have HA := Lib.hid (And.intro (Own.ext HO3.out x4) (And.intro (Strs.one w3 q) (Ext.trans HE3.out x4)))
        clear x4
        go_wp2_with (at_builtin; refine list_of_wp rfl fun K hK => wp_appx _ _ 29 29 9 (.string ByteArray.empty) 16 rfl Tryz.underlying29 info_str rfl rfl HA.out.1 rfl (Cells.src Tryz.underlying29 (Own.cells HA.out.2.1) (pvs_one _)) (by simp [pvs, maxLen]; omega) (by simp [pvs]; omega) HA.out.2.2.size (ps.length + 1) (by simp [pvs]) fun ad c2 w4 ha => hK _ _ ?_)
        obtain ⟨ha1, ha2, -⟩ := ha
        have hX4 := Chg.after2 HA.out.2.2 ((Chg.refl (fun b => (Value.slice a ps.length c).ownBlock = some b) _).grown ha2 (fun k hk => .inl hk)) (fun b hb => HO.out.block b hb)
        have e4 : pvs ps ++ pvs [q] = pvs (ps ++ [q]) := by simp [pvs]
        rw [e4] at ha1
        have e5 : (ps ++ [q]).length = ps.length + 1 := by simp
        have HN4 := Lib.hid (show Own w4 w2.heap.size 9 (.slice ad (ps ++ [q]).length c2) (pvs (ps ++ [q])) by rw [e5]; exact ha1)
        have HX4 := Lib.hid hX4
        have HE5 := Lib.hid e5
        clear ha1 ha2 hX4 e4 e5
        go_wp2_with fail
        exact ⟨⟨i + 1, ps ++ [q], ad, c2, by omega, by go_num, by rw [HE5.out], HP2, HN4, HX4⟩, by simp [intOf]; omega⟩
    · obtain rfl : i = m := by omega
      clear hlt
      have HW := Lib.hid (show ps = having p (paths es) by
        have := HP.out
        rwa [List.take_of_length_le (by unfold paths; rw [List.length_map, HM.out]; exact Nat.le_refl _)] at this)
      go_wp2_with fail
      go_ret2
      exact ⟨.slice a ps.length c, by rw [HN.out]; rfl, by rw [HL.out, ← HW.out]; exact HO.out.mono HG2.out.size, HZ2.out.chg (Chg.of_ext HE.out (fun _ => False)) (fun _ _ h => h), (H2.out.ext HE.out).refAt' HS.out.1 HS.out.2.1 HS.out.2.2.1 (Nat.le_trans HG2.out.size HE.out.size), HG2.out.trans (Chg.of_ext HE.out _)⟩
def rfuseT (fp : Option Nat) (z : Option FS) : Thing :=
  ⟨fun w T => RzAt w fp z ∧ ∀ b, T b ↔ fp = some b, fun h b hb => h.1.lt b ((h.2 b).1 hb), fun h hc hn => ⟨h.1.chg hc fun b hb => hn b ((h.2 b).2 hb), h.2⟩⟩
def refT (r : Nat) (fp : Option Nat) (d : DS) : Thing := ⟨fun w T => RefAt w r fp d T, fun h => h.lt, fun h hc hn => h.chg hc hn⟩
section
variable {w0 w w' : World} {Y Z : Thing} {r : Nat} {fp : Option Nat} {z : Option FS} {d : DS}
theorem Lab.rz (h : Lab w0 w ((rfuseT fp z).star Z)) : RzAt w fp z := by obtain ⟨T, h⟩ := h.left.get; exact h.1
theorem Lab.rnofuse (h : Lab w0 w Y) : Lab w0 w ((rfuseT none none).star Y) := h.new (Ext.refl w) (T := fun _ => False) ⟨trivial, fun b => ⟨False.elim, fun e => by cases e⟩⟩ fun _ h => h.elim
theorem Lab.newref (n : Int) (h : Lab w0 w ((rfuseT fp z).star Y)) : Calls Tryz.prog 68 #[.int .i64 n, fptr fp] w fun e w' => ∃ r, e = .returned (.pointer (some ⟨r, 0, none⟩)) ∧ Lab w0 w' ((rfuseT fp z).star ((refT r fp ⟨mostOf n, false, 0, []⟩).star Y)) :=
  (newref_any n fp w fun b hb => h.rz.lt b hb).mono fun _ w' ⟨h1, h2, h3⟩ => ⟨_, h1, (h.new h3 (X := refT w.heap.size fp ⟨mostOf n, false, 0, []⟩) (T := Grow (fun _ => False) w w') h2 fun _ hb => hb.elim False.elim fun h => h.1).swap⟩
theorem Lab.refout {P : Program} {f : FuncId} {args : Array Value} {y : Nat × Option FS × DS} (hL : Lab w0 w ((rfuseT fp z).star ((refT r fp d).star Y))) (h : ∀ S, RzAt w fp z → RefAt w r fp d S → Calls P f args w (RefOut r fp S w y)) :
    Calls P f args w fun e w' => e = .returned (.int .i64 (y.1 : Nat)) ∧ Lab w0 w' ((rfuseT fp y.2.1).star ((refT r fp y.2.2).star Y)) := by
  refine (Lab.call (Q := fun X' e => e = .returned (.int .i64 (y.1 : Nat)) ∧ X' = (rfuseT fp y.2.1).star (refT r fp y.2.2)) hL.assoc' ?_).mono ?_
  · rintro T ⟨A, S, ⟨h1, h2⟩, h3, h4, h5⟩
    have hS : RefAt w r fp d S := h3
    refine (h S h1 hS).mono fun e w' ⟨k1, k2, k3, k4⟩ => ⟨_, ⟨k1, rfl⟩, k4.mono (fun b _ hb => (h5 b).2 (hb.elim .inr fun hb => .inl ((h2 b).2 hb))), fun b => fp = some b ∨ Grow S w w' b, fun b hb => ?_, fun b => fp = some b, Grow S w w', ⟨k2, fun _ => Iff.rfl⟩, k3, fun b hb hg => ?_, fun _ => Iff.rfl⟩
    · rcases hb with hb | hb | hb
      · exact .inl ((h5 b).2 (.inl ((h2 b).2 hb)))
      · exact .inl ((h5 b).2 (.inr hb))
      · exact .inr hb
    · obtain ⟨_, _, _, _, _, h6⟩ := k3
      exact h6 b hb hg
  · rintro e w' ⟨X', ⟨h1, rfl⟩, h2⟩
    exact ⟨h1, h2.assoc⟩
theorem Lab.refturn {P : Program} {f : FuncId} {args : Array Value} {d' : DS} {e0 : Ending} (hL : Lab w0 w ((refT r fp d).star Y)) (h : ∀ S, RefAt w r fp d S → Calls P f args w fun e w' => e = e0 ∧ RefAt w' r fp d' S ∧ Chg S w w') :
    Calls P f args w fun e w' => e = e0 ∧ Lab w0 w' ((refT r fp d').star Y) := by
  refine (Lab.call (Q := fun X' e => e = e0 ∧ X' = refT r fp d') hL ?_).mono ?_
  · intro T hT
    exact (h T hT).mono fun e w' ⟨k1, k2, k3⟩ => ⟨_, ⟨k1, rfl⟩, k3, T, fun b hb => .inl hb, k2⟩
  · rintro e w' ⟨X', ⟨h1, rfl⟩, h2⟩
    exact ⟨h1, h2⟩
/-- An operation that also hands out a slice of its own. -/
theorem Lab.refgive {P : Program} {f : FuncId} {args : Array Value} {z' : Option FS} {d' : DS} {ty : TypeId} {cs : List Value} {E : Value → Ending} (hL : Lab w0 w ((rfuseT fp z).star ((refT r fp d).star Y)))
    (h : ∀ S, RzAt w fp z → RefAt w r fp d S → Calls P f args w fun e w' => ∃ u, e = E u ∧ Own w' w.heap.size ty u cs ∧ RzAt w' fp z' ∧ RefAt w' r fp d' S ∧ Chg (fun b => S b ∨ fp = some b) w w') :
    Calls P f args w fun e w' => ∃ u, e = E u ∧ Lab w0 w' ((ownT ty u cs).star ((rfuseT fp z').star ((refT r fp d').star Y))) := by
  refine (Lab.call (Q := fun X' e => ∃ u, e = E u ∧ X' = (ownT ty u cs).star ((rfuseT fp z').star (refT r fp d'))) hL.assoc' ?_).mono ?_
  · rintro T ⟨A, S, ⟨h1, h2⟩, h3, h4, h5⟩
    have hS : RefAt w r fp d S := h3
    have lt := hS.lt
    have ltf := h1.lt
    refine (h S h1 hS).mono fun e w' ⟨u, k1, k0, k2, k3, k4⟩ => ⟨_, ⟨u, k1, rfl⟩, k4.mono (fun b _ hb => (h5 b).2 (hb.elim .inr fun hb => .inl ((h2 b).2 hb))), fun b => u.ownBlock = some b ∨ (fp = some b ∨ S b), fun b hb => ?_, fun b => u.ownBlock = some b, fun b => fp = some b ∨ S b, ⟨k0.mono (Nat.zero_le _), fun _ => Iff.rfl⟩,
      ⟨fun b => fp = some b, S, ⟨k2, fun _ => Iff.rfl⟩, k3, fun b hb hg => ?_, fun _ => Iff.rfl⟩, fun b hb hg => ?_, fun _ => Iff.rfl⟩
    · rcases hb with hb | hb | hb
      · exact .inr ⟨k0.block b hb, k0.lt hb⟩
      · exact .inl ((h5 b).2 (.inl ((h2 b).2 hb)))
      · exact .inl ((h5 b).2 (.inr hb))
    · obtain ⟨_, _, _, _, _, h6⟩ := k3
      exact h6 b hb hg
    · have := k0.block b hb
      rcases hg with hg | hg
      · have := ltf b hg; omega
      · have := lt b hg; omega
  · rintro e w' ⟨X', ⟨u, h1, rfl⟩, h2⟩
    exact ⟨u, h1, h2.assoc.ent (.star (.refl _) .assoc)⟩
theorem Lab.rwrite (hL : Lab w0 w ((rfuseT fp z).star ((refT r fp d).star Y))) (p : Path) (v : Value) (b : List UInt8) (hzo : zops z < 1099511627776) (hp : p.length ≤ maxLen) (hv : Bytes w v b) (hb : b.length ≤ 140737488351232) (ht : tot d.fs ≤ 1099511627776) (hn : d.fs.length ≤ 4096) :
    Calls Tryz.prog 76 #[.pointer (some ⟨r, 0, none⟩), .string (bstr p), v] w fun e w' => e = .returned (.int .i64 ((writes z d p b).1 : Nat)) ∧ Lab w0 w' ((rfuseT fp (writes z d p b).2.1).star ((refT r fp (writes z d p b).2.2).star Y)) :=
  hL.refout fun S hz hS => rwrite_any r fp z d S p v b w hS hz hzo hp hn hv hb ht
theorem Lab.rsync (hL : Lab w0 w ((rfuseT fp z).star ((refT r fp d).star Y))) (p : Path) (hzo : zops z < 1099511627776) (hp : p.length ≤ maxLen) (hn : d.fs.length ≤ 4096) :
    Calls Tryz.prog 77 #[.pointer (some ⟨r, 0, none⟩), .string (bstr p)] w fun e w' => e = .returned (.int .i64 ((syncs z d p).1 : Nat)) ∧ Lab w0 w' ((rfuseT fp (syncs z d p).2.1).star ((refT r fp (syncs z d p).2.2).star Y)) :=
  hL.refout fun S hz hS => rsync_any r fp z d S p w hS hz hzo hp hn
theorem Lab.rdelete (hL : Lab w0 w ((rfuseT fp z).star ((refT r fp d).star Y))) (p : Path) (hzo : zops z < 1099511627776) (hp : p.length ≤ maxLen) (hn : d.fs.length ≤ 4096) :
    Calls Tryz.prog 89 #[.pointer (some ⟨r, 0, none⟩), .string (bstr p)] w fun e w' => e = .returned (.int .i64 ((deletes z d p).1 : Nat)) ∧ Lab w0 w' ((rfuseT fp (deletes z d p).2.1).star ((refT r fp (deletes z d p).2.2).star Y)) :=
  hL.refout fun S hz hS => rdelete_any r fp z d S p w hS hz hzo hp hn
theorem Lab.rrename (hL : Lab w0 w ((rfuseT fp z).star ((refT r fp d).star Y))) (p q : Path) (hzo : zops z < 1099511627776) (hp : p.length ≤ maxLen) (hq : q.length ≤ maxLen) (hn : d.fs.length ≤ 4096) :
    Calls Tryz.prog 78 #[.pointer (some ⟨r, 0, none⟩), .string (bstr p), .string (bstr q)] w fun e w' => e = .returned (.int .i64 ((renames z d p q).1 : Nat)) ∧ Lab w0 w' ((rfuseT fp (renames z d p q).2.1).star ((refT r fp (renames z d p q).2.2).star Y)) :=
  hL.refout fun S hz hS => rrename_any r fp z d S p q w hS hz hzo hp hq hn
theorem Lab.rread (hL : Lab w0 w ((rfuseT fp z).star ((refT r fp d).star Y))) (p : Path) (hzo : zops z < 1099511627776) (hp : p.length ≤ maxLen) (ht : tot d.fs ≤ 5000000) (hn : d.fs.length ≤ 4096) :
    Calls Tryz.prog 75 #[.pointer (some ⟨r, 0, none⟩), .string (bstr p)] w fun e w' => ∃ u, e = .returned (.tuple #[u, .int .i64 (opens z d p [] : Nat)]) ∧ Lab w0 w' ((ownT 5 u (bvs (readb z d p))).star ((rfuseT fp (begins z d [p]).2.1).star ((refT r fp (begins z d [p]).2.2).star Y))) :=
  hL.refgive fun S hz hS => rread_any r fp z d S p w hS hz hzo hp hn ht
theorem Lab.rlist (hL : Lab w0 w ((rfuseT fp z).star ((refT r fp d).star Y))) (p : Path) (hzo : zops z < 1099511627776) (hn : d.fs.length ≤ 4096) :
    Calls Tryz.prog 110 #[.pointer (some ⟨r, 0, none⟩), .string (bstr p)] w fun e w' => ∃ u, e = .returned (.tuple #[u, .int .i64 ((begins z d []).1 : Nat)]) ∧ Lab w0 w' ((ownT 9 u (pvs (lists z d p))).star ((rfuseT fp (begins z d []).2.1).star ((refT r fp (begins z d []).2.2).star Y))) :=
  hL.refgive fun S hz hS => rlist_any r fp z d S p w hS hz hzo hn
end
end Go.Proofs.YthkbbcdnmdjhdaaGreat
/-! XRfH: Both: what is done on both disks is answered alike. -/
namespace Go.Proofs.YthkbbcdnmdjhdaaGreat
open Go.RowKit Dk
set_option maxRecDepth 100000
set_option maxHeartbeats 4000000
attribute [local go_sem] min_int2 max_int2 bstr_toList bstr_size

/-- What a deed (0 to 6) makes of the fuse and the disk. -/
def stepB (z : Option FS) (d : DS) (x : Deed) : Option FS × DS :=
  if x.act = 0 then (begins z d [x.a]).2 else if x.act = 1 then (writes z d x.a x.data).2 else if x.act = 2 then (writes z d x.a x.data).2 else if x.act = 3 then (syncs z d x.a).2
  else if x.act = 4 then (renames z d x.a x.b).2 else if x.act = 5 then (deletes z d x.a).2 else (begins z d []).2
theorem Lab.drop5 {w0 w : World} {X Y Z V U R : Thing} (h : Lab w0 w (X.star (Y.star (Z.star (V.star (U.star R)))))) : Lab w0 w (X.star (Y.star (Z.star (V.star R)))) := h.ent (.star (.refl _) (.star (.refl _) (.star (.refl _) (.star (.refl _) .right))))
theorem both_any (w0 w : World) (Y : Thing) (s r : Nat) (fp rf : Option Nat) (fv : Value) (z : Option FS) (d : DS) (x : Deed) (da : Option Addr) (dc : Nat) (hL : Lab w0 w ((fuseT fp z).star ((simT s fp d).star ((rfuseT rf z).star ((refT r rf d).star Y))))) (hact : 0 ≤ x.act ∧ x.act ≤ 6)
    (ha : x.a.length ≤ maxLen) (hb : x.b.length ≤ maxLen) (hD : Bytes w0 (.slice da x.data.length dc) x.data) (hdl : x.data.length ≤ 140737488351232) (hzo : zops z < 1099511627776) (hn : d.fs.length ≤ 4096) (ht : tot d.fs ≤ 5000000) :
    Calls Tryz.prog 79 #[.pointer (some ⟨s, 0, none⟩), fv, .pointer (some ⟨r, 0, none⟩), .agg #[.int .i64 x.act, .int .i64 x.n, .string (bstr x.a), .string (bstr x.b), .slice da x.data.length dc]] w fun e w' =>
      e = .returned (.bool true) ∧ Lab w0 w' ((fuseT fp (stepB z d x).1).star ((simT s fp (stepB z d x).2).star ((rfuseT rf (stepB z d x).1).star ((refT r rf (stepB z d x).2).star Y)))) := by
  obtain ⟨xd, xn, xa, xc, xt⟩ := x
  simp only at ha hb hD hdl hact ⊢
  have HX := Lib.hid (And.intro ha (And.intro hb (And.intro hD hdl)))
  have hr := Row.new w 74 #[.int .i64 xd, .int .i64 xn, .string (bstr xa), .string (bstr xc), .slice da xt.length dc]
  have hx1 : Ext w (w.alloc (.cells #[.int .i64 xd, .int .i64 xn, .string (bstr xa), .string (bstr xc), .slice da xt.length dc] 74)) := (Ext.refl w).alloc (Nat.le_refl _) _
  have hL1 := (hL.new hx1 (X := rowT w.heap.size 74 #[.int .i64 xd, .int .i64 xn, .string (bstr xa), .string (bstr xc), .slice da xt.length dc]) (T := fun b => w.heap.size = b) ⟨hr, fun _ => Iff.rfl⟩ (fun _ hb => Nat.le_of_eq hb)).fifth'
  obtain ⟨w2, hw2⟩ : ∃ w2, w.alloc (.cells #[.int .i64 xd, .int .i64 xn, .string (bstr xa), .string (bstr xc), .slice da xt.length dc] 74) = w2 := ⟨_, rfl⟩
  rw [hw2] at hL1
  obtain ⟨xb, hxb⟩ : ∃ xb, w.heap.size = xb := ⟨_, rfl⟩
  rw [hxb] at hL1
  have HL2 := Lib.hid (show Lab w0 w2 ((fuseT fp z).star ((simT s fp d).star ((rfuseT rf z).star ((refT r rf d).star ((rowT xb 74 #[.int .i64 xd, .int .i64 xn, .string (bstr xa), .string (bstr xc), .slice da xt.length dc]).star Y))))) from hL1)
  have hrow := rowT.row hL1.right.right.right.right.left
  have c0 := hrow.cell (i := 0) (v := .int .i64 xd) rfl
  have c2 := hrow.cell (i := 2) (v := .string (bstr xa)) rfl
  have c3 := hrow.cell (i := 3) (v := .string (bstr xc)) rfl
  have c4 := hrow.cell (i := 4) (v := .slice da xt.length dc) rfl
  clear hL hr hx1 hL1 hrow ha hb hD hdl
  go_enter Tryz.func79, Tryz.ntmps79
  by_cases h0 : xd = 0
  · subst h0
    have HST := Lib.hid (show stepB z d ⟨0, xn, xa, xc, xt⟩ = (begins z d [xa]).2 from rfl)
    go_wp2_with fail
    refine (HL2.out.read xa hzo HX.out.1 (by omega)).mono ?_; rintro e w3 ⟨u, rfl, hL⟩
    obtain ⟨ua, uc, hu⟩ := Own.slice' (ownT.own hL.left)
    rw [bvs_len] at hu
    subst hu
    have c2 := (rowT.row hL.right.right.right.right.right.left).cell (i := 2) (v := .string (bstr xa)) rfl
    have HL3 := Lib.hid hL.fifth'
    clear hL
    go_wp2_with fail
    refine (HL3.out.flip.rread xa hzo HX.out.1 (by omega) hn).mono ?_; rintro e w4 ⟨u2, rfl, hL⟩
    obtain ⟨va, vc, hu⟩ := Own.slice' (ownT.own hL.left)
    rw [bvs_len] at hu
    subst hu
    have y2 := str_conv (ownT.own hL.left).cells w4 (Ext.refl _)
    have y1 := str_conv (ownT.own hL.right.right.right.right.right.left).cells w4 (Ext.refl _)
    have HF := Lib.hid hL.right.flip
    obtain ⟨k, hk⟩ : ∃ k, opens z d xa [] = k := ⟨_, rfl⟩
    rw [hk]
    obtain ⟨bb, hbb⟩ : ∃ bb, readb z d xa = bb := ⟨_, rfl⟩
    rw [hbb] at y1 y2 ⊢
    clear hL hk hbb
    go_wp2_with fail
    go_ret
    rw [HST.out]
    exact ⟨rfl, Lab.drop5 (Lab.drop5 HF.out)⟩
  by_cases h1 : xd = 1
  · subst h1
    have HST := Lib.hid (show stepB z d ⟨1, xn, xa, xc, xt⟩ = (writes z d xa xt).2 from rfl)
    obtain ⟨nn, hnn⟩ : ∃ nn, (writes z d xa xt).1 = nn := ⟨_, rfl⟩
    obtain ⟨y, hy⟩ : ∃ y, (writes z d xa xt).2 = y := ⟨_, rfl⟩
    have HY := Lib.hid (And.intro hnn hy)
    have A1 : Hid (∀ W, Lab w0 W ((fuseT fp z).star ((simT s fp d).star ((rfuseT rf z).star ((refT r rf d).star ((rowT xb 74 #[.int .i64 1, .int .i64 xn, .string (bstr xa), .string (bstr xc), .slice da xt.length dc]).star Y))))) → Calls Tryz.prog 45 #[.pointer (some ⟨s, 0, none⟩), .string (bstr xa), .slice da xt.length dc] W fun e w' => e = .returned (.int .i64 (nn : Nat)) ∧ (fun w' : World => w'.cell? ⟨xb, 2, none⟩ = some (.string (bstr xa)) ∧ w'.cell? ⟨xb, 4, none⟩ = some (.slice da xt.length dc)) w' ∧ Lab w0 w' ((fuseT fp y.1).star ((simT s fp y.2).star ((rfuseT rf z).star ((refT r rf d).star ((rowT xb 74 #[.int .i64 1, .int .i64 xn, .string (bstr xa), .string (bstr xc), .slice da xt.length dc]).star Y)))))) := Lib.hid fun W hL => by
      refine (hL.write xa _ xt hzo HX.out.1 (Cells.ext HX.out.2.2.1 hL.toExt) HX.out.2.2.2 (by omega) hn).mono ?_
      rintro e w' ⟨h1, h2⟩
      rw [HY.out.1] at h1
      rw [HY.out.2] at h2
      exact ⟨h1, ⟨(rowT.row h2.right.right.right.right.left).cell (i := 2) rfl, (rowT.row h2.right.right.right.right.left).cell (i := 4) rfl⟩, h2⟩
    have A2 : Hid (∀ W, Lab w0 W ((fuseT fp y.1).star ((simT s fp y.2).star ((rfuseT rf z).star ((refT r rf d).star ((rowT xb 74 #[.int .i64 1, .int .i64 xn, .string (bstr xa), .string (bstr xc), .slice da xt.length dc]).star Y))))) → Calls Tryz.prog 76 #[.pointer (some ⟨r, 0, none⟩), .string (bstr xa), .slice da xt.length dc] W fun e w' => e = .returned (.int .i64 (nn : Nat)) ∧ (fun w' : World => w'.cell? ⟨xb, 2, none⟩ = some (.string (bstr xa)) ∧ w'.cell? ⟨xb, 4, none⟩ = some (.slice da xt.length dc)) w' ∧ Lab w0 w' ((fuseT fp y.1).star ((simT s fp y.2).star ((rfuseT rf y.1).star ((refT r rf y.2).star ((rowT xb 74 #[.int .i64 1, .int .i64 xn, .string (bstr xa), .string (bstr xc), .slice da xt.length dc]).star Y)))))) := Lib.hid fun W hL => by
      refine (hL.flip.rwrite xa _ xt hzo HX.out.1 (Cells.ext HX.out.2.2.1 hL.toExt) HX.out.2.2.2 (by omega) hn).mono ?_
      rintro e w' ⟨h1, h2⟩
      rw [HY.out.1] at h1
      rw [HY.out.2] at h2
      have h3 := h2.flip
      exact ⟨h1, ⟨(rowT.row h3.right.right.right.right.left).cell (i := 2) rfl, (rowT.row h3.right.right.right.right.left).cell (i := 4) rfl⟩, h3⟩
    have x0 := HL2.out.drew
    have S0 : (fun w' : World => w'.cell? ⟨xb, 2, none⟩ = some (.string (bstr xa)) ∧ w'.cell? ⟨xb, 4, none⟩ = some (.slice da xt.length dc)) w2.drew := ⟨(rowT.row x0.right.right.right.right.left).cell (i := 2) rfl, (rowT.row x0.right.right.right.right.left).cell (i := 4) rfl⟩
    clear hnn hy
    go_wp2_with fail
    go_region_held3 (fun w' : World => w'.cell? ⟨xb, 2, none⟩ = some (.string (bstr xa)) ∧ w'.cell? ⟨xb, 4, none⟩ = some (.slice da xt.length dc)) (assumption) (first | (go_at_call 45; refine (A1.out _ x0).mono ?_; rintro e w4 ⟨rfl, hS4, hL4⟩) | (go_at_call 76; refine (A2.out _ hL4).mono ?_; rintro e w5 ⟨rfl, hS5, hL5⟩))
    have HF := Lib.hid hL5
    clear x0 S0 hS4 hL4 hS5 hL5
    go_wp2_with fail
    go_ret
    rw [HST.out, HY.out.2]
    exact ⟨rfl, Lab.drop5 HF.out⟩
  by_cases h2 : xd = 2
  · subst h2
    have HST := Lib.hid (show stepB z d ⟨2, xn, xa, xc, xt⟩ = (writes z d xa xt).2 from rfl)
    obtain ⟨nn, hnn⟩ : ∃ nn, (writes z d xa xt).1 = nn := ⟨_, rfl⟩
    obtain ⟨y, hy⟩ : ∃ y, (writes z d xa xt).2 = y := ⟨_, rfl⟩
    have HY := Lib.hid (And.intro hnn hy)
    have A1 : Hid (∀ W, Lab w0 W ((fuseT fp z).star ((simT s fp d).star ((rfuseT rf z).star ((refT r rf d).star ((rowT xb 74 #[.int .i64 2, .int .i64 xn, .string (bstr xa), .string (bstr xc), .slice da xt.length dc]).star Y))))) → Calls Tryz.prog 45 #[.pointer (some ⟨s, 0, none⟩), .string (bstr xa), .slice da xt.length dc] W fun e w' => e = .returned (.int .i64 (nn : Nat)) ∧ (fun w' : World => w'.cell? ⟨xb, 2, none⟩ = some (.string (bstr xa)) ∧ w'.cell? ⟨xb, 4, none⟩ = some (.slice da xt.length dc)) w' ∧ Lab w0 w' ((fuseT fp y.1).star ((simT s fp y.2).star ((rfuseT rf z).star ((refT r rf d).star ((rowT xb 74 #[.int .i64 2, .int .i64 xn, .string (bstr xa), .string (bstr xc), .slice da xt.length dc]).star Y)))))) := Lib.hid fun W hL => by
      refine (hL.write xa _ xt hzo HX.out.1 (Cells.ext HX.out.2.2.1 hL.toExt) HX.out.2.2.2 (by omega) hn).mono ?_
      rintro e w' ⟨h1, h2⟩
      rw [HY.out.1] at h1
      rw [HY.out.2] at h2
      exact ⟨h1, ⟨(rowT.row h2.right.right.right.right.left).cell (i := 2) rfl, (rowT.row h2.right.right.right.right.left).cell (i := 4) rfl⟩, h2⟩
    have A2 : Hid (∀ W, Lab w0 W ((fuseT fp y.1).star ((simT s fp y.2).star ((rfuseT rf z).star ((refT r rf d).star ((rowT xb 74 #[.int .i64 2, .int .i64 xn, .string (bstr xa), .string (bstr xc), .slice da xt.length dc]).star Y))))) → Calls Tryz.prog 76 #[.pointer (some ⟨r, 0, none⟩), .string (bstr xa), .slice da xt.length dc] W fun e w' => e = .returned (.int .i64 (nn : Nat)) ∧ (fun w' : World => w'.cell? ⟨xb, 2, none⟩ = some (.string (bstr xa)) ∧ w'.cell? ⟨xb, 4, none⟩ = some (.slice da xt.length dc)) w' ∧ Lab w0 w' ((fuseT fp y.1).star ((simT s fp y.2).star ((rfuseT rf y.1).star ((refT r rf y.2).star ((rowT xb 74 #[.int .i64 2, .int .i64 xn, .string (bstr xa), .string (bstr xc), .slice da xt.length dc]).star Y)))))) := Lib.hid fun W hL => by
      refine (hL.flip.rwrite xa _ xt hzo HX.out.1 (Cells.ext HX.out.2.2.1 hL.toExt) HX.out.2.2.2 (by omega) hn).mono ?_
      rintro e w' ⟨h1, h2⟩
      rw [HY.out.1] at h1
      rw [HY.out.2] at h2
      have h3 := h2.flip
      exact ⟨h1, ⟨(rowT.row h3.right.right.right.right.left).cell (i := 2) rfl, (rowT.row h3.right.right.right.right.left).cell (i := 4) rfl⟩, h3⟩
    have x0 := HL2.out.drew
    have S0 : (fun w' : World => w'.cell? ⟨xb, 2, none⟩ = some (.string (bstr xa)) ∧ w'.cell? ⟨xb, 4, none⟩ = some (.slice da xt.length dc)) w2.drew := ⟨(rowT.row x0.right.right.right.right.left).cell (i := 2) rfl, (rowT.row x0.right.right.right.right.left).cell (i := 4) rfl⟩
    clear hnn hy
    go_wp2_with fail
    go_region_held3 (fun w' : World => w'.cell? ⟨xb, 2, none⟩ = some (.string (bstr xa)) ∧ w'.cell? ⟨xb, 4, none⟩ = some (.slice da xt.length dc)) (assumption) (first | (go_at_call 45; refine (A1.out _ x0).mono ?_; rintro e w4 ⟨rfl, hS4, hL4⟩) | (go_at_call 76; refine (A2.out _ hL4).mono ?_; rintro e w5 ⟨rfl, hS5, hL5⟩))
    have HF := Lib.hid hL5
    clear x0 S0 hS4 hL4 hS5 hL5
    go_wp2_with fail
    go_ret
    rw [HST.out, HY.out.2]
    exact ⟨rfl, Lab.drop5 HF.out⟩
  by_cases h3 : xd = 3
  · subst h3
    have HST := Lib.hid (show stepB z d ⟨3, xn, xa, xc, xt⟩ = (syncs z d xa).2 from rfl)
    obtain ⟨nn, hnn⟩ : ∃ nn, (syncs z d xa).1 = nn := ⟨_, rfl⟩
    obtain ⟨y, hy⟩ : ∃ y, (syncs z d xa).2 = y := ⟨_, rfl⟩
    have HY := Lib.hid (And.intro hnn hy)
    have A1 : Hid (∀ W, Lab w0 W ((fuseT fp z).star ((simT s fp d).star ((rfuseT rf z).star ((refT r rf d).star ((rowT xb 74 #[.int .i64 3, .int .i64 xn, .string (bstr xa), .string (bstr xc), .slice da xt.length dc]).star Y))))) → Calls Tryz.prog 106 #[.pointer (some ⟨s, 0, none⟩), .string (bstr xa)] W fun e w' => e = .returned (.int .i64 (nn : Nat)) ∧ (fun w' : World => w'.cell? ⟨xb, 2, none⟩ = some (.string (bstr xa))) w' ∧ Lab w0 w' ((fuseT fp y.1).star ((simT s fp y.2).star ((rfuseT rf z).star ((refT r rf d).star ((rowT xb 74 #[.int .i64 3, .int .i64 xn, .string (bstr xa), .string (bstr xc), .slice da xt.length dc]).star Y)))))) := Lib.hid fun W hL => by
      refine (hL.sync xa hzo HX.out.1).mono ?_
      rintro e w' ⟨h1, h2⟩
      rw [HY.out.1] at h1
      rw [HY.out.2] at h2
      exact ⟨h1, (rowT.row h2.right.right.right.right.left).cell (i := 2) rfl, h2⟩
    have A2 : Hid (∀ W, Lab w0 W ((fuseT fp y.1).star ((simT s fp y.2).star ((rfuseT rf z).star ((refT r rf d).star ((rowT xb 74 #[.int .i64 3, .int .i64 xn, .string (bstr xa), .string (bstr xc), .slice da xt.length dc]).star Y))))) → Calls Tryz.prog 77 #[.pointer (some ⟨r, 0, none⟩), .string (bstr xa)] W fun e w' => e = .returned (.int .i64 (nn : Nat)) ∧ (fun w' : World => w'.cell? ⟨xb, 2, none⟩ = some (.string (bstr xa))) w' ∧ Lab w0 w' ((fuseT fp y.1).star ((simT s fp y.2).star ((rfuseT rf y.1).star ((refT r rf y.2).star ((rowT xb 74 #[.int .i64 3, .int .i64 xn, .string (bstr xa), .string (bstr xc), .slice da xt.length dc]).star Y)))))) := Lib.hid fun W hL => by
      refine (hL.flip.rsync xa hzo HX.out.1 hn).mono ?_
      rintro e w' ⟨h1, h2⟩
      rw [HY.out.1] at h1
      rw [HY.out.2] at h2
      have h3 := h2.flip
      exact ⟨h1, (rowT.row h3.right.right.right.right.left).cell (i := 2) rfl, h3⟩
    have x0 := HL2.out.drew
    have S0 : (fun w' : World => w'.cell? ⟨xb, 2, none⟩ = some (.string (bstr xa))) w2.drew := (rowT.row x0.right.right.right.right.left).cell (i := 2) rfl
    clear hnn hy
    go_wp2_with fail
    go_region_held3 (fun w' : World => w'.cell? ⟨xb, 2, none⟩ = some (.string (bstr xa))) (assumption) (first | (go_at_call 106; refine (A1.out _ x0).mono ?_; rintro e w4 ⟨rfl, hS4, hL4⟩) | (go_at_call 77; refine (A2.out _ hL4).mono ?_; rintro e w5 ⟨rfl, hS5, hL5⟩))
    have HF := Lib.hid hL5
    clear x0 S0 hS4 hL4 hS5 hL5
    go_wp2_with fail
    go_ret
    rw [HST.out, HY.out.2]
    exact ⟨rfl, Lab.drop5 HF.out⟩
  by_cases h4 : xd = 4
  · subst h4
    have HST := Lib.hid (show stepB z d ⟨4, xn, xa, xc, xt⟩ = (renames z d xa xc).2 from rfl)
    obtain ⟨nn, hnn⟩ : ∃ nn, (renames z d xa xc).1 = nn := ⟨_, rfl⟩
    obtain ⟨y, hy⟩ : ∃ y, (renames z d xa xc).2 = y := ⟨_, rfl⟩
    have HY := Lib.hid (And.intro hnn hy)
    have A1 : Hid (∀ W, Lab w0 W ((fuseT fp z).star ((simT s fp d).star ((rfuseT rf z).star ((refT r rf d).star ((rowT xb 74 #[.int .i64 4, .int .i64 xn, .string (bstr xa), .string (bstr xc), .slice da xt.length dc]).star Y))))) → Calls Tryz.prog 107 #[.pointer (some ⟨s, 0, none⟩), .string (bstr xa), .string (bstr xc)] W fun e w' => e = .returned (.int .i64 (nn : Nat)) ∧ (fun w' : World => w'.cell? ⟨xb, 2, none⟩ = some (.string (bstr xa)) ∧ w'.cell? ⟨xb, 3, none⟩ = some (.string (bstr xc))) w' ∧ Lab w0 w' ((fuseT fp y.1).star ((simT s fp y.2).star ((rfuseT rf z).star ((refT r rf d).star ((rowT xb 74 #[.int .i64 4, .int .i64 xn, .string (bstr xa), .string (bstr xc), .slice da xt.length dc]).star Y)))))) := Lib.hid fun W hL => by
      refine (hL.rename xa xc hzo HX.out.1 HX.out.2.1 hn).mono ?_
      rintro e w' ⟨h1, h2⟩
      rw [HY.out.1] at h1
      rw [HY.out.2] at h2
      exact ⟨h1, ⟨(rowT.row h2.right.right.right.right.left).cell (i := 2) rfl, (rowT.row h2.right.right.right.right.left).cell (i := 3) rfl⟩, h2⟩
    have A2 : Hid (∀ W, Lab w0 W ((fuseT fp y.1).star ((simT s fp y.2).star ((rfuseT rf z).star ((refT r rf d).star ((rowT xb 74 #[.int .i64 4, .int .i64 xn, .string (bstr xa), .string (bstr xc), .slice da xt.length dc]).star Y))))) → Calls Tryz.prog 78 #[.pointer (some ⟨r, 0, none⟩), .string (bstr xa), .string (bstr xc)] W fun e w' => e = .returned (.int .i64 (nn : Nat)) ∧ (fun w' : World => w'.cell? ⟨xb, 2, none⟩ = some (.string (bstr xa)) ∧ w'.cell? ⟨xb, 3, none⟩ = some (.string (bstr xc))) w' ∧ Lab w0 w' ((fuseT fp y.1).star ((simT s fp y.2).star ((rfuseT rf y.1).star ((refT r rf y.2).star ((rowT xb 74 #[.int .i64 4, .int .i64 xn, .string (bstr xa), .string (bstr xc), .slice da xt.length dc]).star Y)))))) := Lib.hid fun W hL => by
      refine (hL.flip.rrename xa xc hzo HX.out.1 HX.out.2.1 hn).mono ?_
      rintro e w' ⟨h1, h2⟩
      rw [HY.out.1] at h1
      rw [HY.out.2] at h2
      have h3 := h2.flip
      exact ⟨h1, ⟨(rowT.row h3.right.right.right.right.left).cell (i := 2) rfl, (rowT.row h3.right.right.right.right.left).cell (i := 3) rfl⟩, h3⟩
    have x0 := HL2.out.drew
    have S0 : (fun w' : World => w'.cell? ⟨xb, 2, none⟩ = some (.string (bstr xa)) ∧ w'.cell? ⟨xb, 3, none⟩ = some (.string (bstr xc))) w2.drew := ⟨(rowT.row x0.right.right.right.right.left).cell (i := 2) rfl, (rowT.row x0.right.right.right.right.left).cell (i := 3) rfl⟩
    clear hnn hy
    go_wp2_with fail
    go_region_held3 (fun w' : World => w'.cell? ⟨xb, 2, none⟩ = some (.string (bstr xa)) ∧ w'.cell? ⟨xb, 3, none⟩ = some (.string (bstr xc))) (assumption) (first | (go_at_call 107; refine (A1.out _ x0).mono ?_; rintro e w4 ⟨rfl, hS4, hL4⟩) | (go_at_call 78; refine (A2.out _ hL4).mono ?_; rintro e w5 ⟨rfl, hS5, hL5⟩))
    have HF := Lib.hid hL5
    clear x0 S0 hS4 hL4 hS5 hL5
    go_wp2_with fail
    go_ret
    rw [HST.out, HY.out.2]
    exact ⟨rfl, Lab.drop5 HF.out⟩
  by_cases h5 : xd = 5
  · subst h5
    have HST := Lib.hid (show stepB z d ⟨5, xn, xa, xc, xt⟩ = (deletes z d xa).2 from rfl)
    obtain ⟨nn, hnn⟩ : ∃ nn, (deletes z d xa).1 = nn := ⟨_, rfl⟩
    obtain ⟨y, hy⟩ : ∃ y, (deletes z d xa).2 = y := ⟨_, rfl⟩
    have HY := Lib.hid (And.intro hnn hy)
    have A1 : Hid (∀ W, Lab w0 W ((fuseT fp z).star ((simT s fp d).star ((rfuseT rf z).star ((refT r rf d).star ((rowT xb 74 #[.int .i64 5, .int .i64 xn, .string (bstr xa), .string (bstr xc), .slice da xt.length dc]).star Y))))) → Calls Tryz.prog 108 #[.pointer (some ⟨s, 0, none⟩), .string (bstr xa)] W fun e w' => e = .returned (.int .i64 (nn : Nat)) ∧ (fun w' : World => w'.cell? ⟨xb, 2, none⟩ = some (.string (bstr xa))) w' ∧ Lab w0 w' ((fuseT fp y.1).star ((simT s fp y.2).star ((rfuseT rf z).star ((refT r rf d).star ((rowT xb 74 #[.int .i64 5, .int .i64 xn, .string (bstr xa), .string (bstr xc), .slice da xt.length dc]).star Y)))))) := Lib.hid fun W hL => by
      refine (hL.delete xa hzo HX.out.1).mono ?_
      rintro e w' ⟨h1, h2⟩
      rw [HY.out.1] at h1
      rw [HY.out.2] at h2
      exact ⟨h1, (rowT.row h2.right.right.right.right.left).cell (i := 2) rfl, h2⟩
    have A2 : Hid (∀ W, Lab w0 W ((fuseT fp y.1).star ((simT s fp y.2).star ((rfuseT rf z).star ((refT r rf d).star ((rowT xb 74 #[.int .i64 5, .int .i64 xn, .string (bstr xa), .string (bstr xc), .slice da xt.length dc]).star Y))))) → Calls Tryz.prog 89 #[.pointer (some ⟨r, 0, none⟩), .string (bstr xa)] W fun e w' => e = .returned (.int .i64 (nn : Nat)) ∧ (fun w' : World => w'.cell? ⟨xb, 2, none⟩ = some (.string (bstr xa))) w' ∧ Lab w0 w' ((fuseT fp y.1).star ((simT s fp y.2).star ((rfuseT rf y.1).star ((refT r rf y.2).star ((rowT xb 74 #[.int .i64 5, .int .i64 xn, .string (bstr xa), .string (bstr xc), .slice da xt.length dc]).star Y)))))) := Lib.hid fun W hL => by
      refine (hL.flip.rdelete xa hzo HX.out.1 hn).mono ?_
      rintro e w' ⟨h1, h2⟩
      rw [HY.out.1] at h1
      rw [HY.out.2] at h2
      have h3 := h2.flip
      exact ⟨h1, (rowT.row h3.right.right.right.right.left).cell (i := 2) rfl, h3⟩
    have x0 := HL2.out.drew
    have S0 : (fun w' : World => w'.cell? ⟨xb, 2, none⟩ = some (.string (bstr xa))) w2.drew := (rowT.row x0.right.right.right.right.left).cell (i := 2) rfl
    clear hnn hy
    go_wp2_with fail
    go_region_held3 (fun w' : World => w'.cell? ⟨xb, 2, none⟩ = some (.string (bstr xa))) (assumption) (first | (go_at_call 108; refine (A1.out _ x0).mono ?_; rintro e w4 ⟨rfl, hS4, hL4⟩) | (go_at_call 89; refine (A2.out _ hL4).mono ?_; rintro e w5 ⟨rfl, hS5, hL5⟩))
    have HF := Lib.hid hL5
    clear x0 S0 hS4 hL4 hS5 hL5
    go_wp2_with fail
    go_ret
    rw [HST.out, HY.out.2]
    exact ⟨rfl, Lab.drop5 HF.out⟩
  obtain rfl : xd = 6 := by omega
  have HST := Lib.hid (show stepB z d ⟨6, xn, xa, xc, xt⟩ = (begins z d []).2 from rfl)
  go_wp2_with fail
  refine (HL2.out.list xa hzo hn).mono ?_; rintro e w3 ⟨u, rfl, hL⟩
  obtain ⟨ua, uc, hu⟩ := Own.slice' (ownT.own hL.left)
  rw [pvs_len] at hu
  subst hu
  have c2 := (rowT.row hL.right.right.right.right.right.left).cell (i := 2) (v := .string (bstr xa)) rfl
  have HL3 := Lib.hid hL.fifth'
  clear hL
  go_wp2_with fail
  refine (HL3.out.flip.rlist xa hzo hn).mono ?_; rintro e w4 ⟨u2, rfl, hL⟩
  obtain ⟨va, vc, hu⟩ := Own.slice' (ownT.own hL.left)
  rw [pvs_len] at hu
  subst hu
  have HU1 := Lib.hid (ownT.own hL.right.right.right.right.right.left)
  have HU2 := Lib.hid (ownT.own hL.left)
  have HF := Lib.hid hL.right.flip
  have hll : (lists z d xa).length ≤ 4096 := by
    unfold lists
    split
    · refine Nat.le_trans (List.length_filter_le _ _) ?_
      unfold paths; rw [List.length_map]; exact hn
    · simp
  obtain ⟨k, hk⟩ : ∃ k, (begins z d []).1 = k := ⟨_, rfl⟩
  rw [hk]
  clear hL hk
  go_wp2_with fail
  refine (texts_same _ _ (lists z d xa) _ HU1.out HU2.out (by unfold maxLen; omega)).mono ?_; rintro e w5 ⟨rfl, x5⟩
  have HF5 := Lib.hid (HF.out.ext x5)
  clear x5
  go_wp2_with fail
  go_ret
  rw [HST.out]
  exact ⟨rfl, Lab.drop5 (Lab.drop5 HF5.out)⟩
end Go.Proofs.YthkbbcdnmdjhdaaGreat
/-! XRfI: The reference's disk: Crash. -/
namespace Go.Proofs.YthkbbcdnmdjhdaaGreat
open Go.RowKit Dk
set_option maxRecDepth 100000
set_option maxHeartbeats 4000000
attribute [local go_sem] min_int2 max_int2 bstr_toList bstr_size

/-- The first i are cut. -/
def cutl (k : Nat) (i : Nat) (l : L Fil) : L Fil := mapv (cutf k) (l.take i) ++ l.drop i
theorem cutl_zero (k : Nat) (l : L Fil) : cutl k 0 l = l := by unfold cutl mapv; simp
theorem cutl_all (k : Nat) (l : L Fil) : cutl k l.length l = mapv (cutf k) l := by unfold cutl; simp
theorem cutl_step (k : Nat) (l : L Fil) {i : Nat} (h : i < l.length) : cutl k (i + 1) l = (cutl k i l).set i (l[i].1, cutf k l[i].2) := by
  unfold cutl
  have h1 : (mapv (cutf k) (l.take i)).length = i := by rw [mapv_length, List.length_take]; omega
  have h2 : mapv (cutf k) (l.take (i + 1)) = mapv (cutf k) (l.take i) ++ [(l[i].1, cutf k l[i].2)] := by
    unfold mapv
    rw [List.take_add_one, List.getElem?_eq_getElem h, List.map_append]; rfl
  rw [List.set_append_right _ _ (by omega), h1, Nat.sub_self, ← List.getElem_cons_drop (h := h), List.set_cons_zero, h2, List.append_assoc]
  rfl
theorem cutl_at (k : Nat) (l : L Fil) {i : Nat} (h : i < l.length) : (cutl k i l)[i]? = some l[i] := by
  unfold cutl
  have h1 : (mapv (cutf k) (l.take i)).length = i := by rw [mapv_length, List.length_take]; omega
  rw [List.getElem?_append_right (by omega), h1, Nat.sub_self, List.getElem?_drop]
  simp [List.getElem?_eq_getElem h]
theorem cutl_length (k : Nat) (l : L Fil) {i : Nat} (h : i ≤ l.length) : (cutl k i l).length = l.length := by
  unfold cutl
  rw [List.length_append, mapv_length, List.length_take, List.length_drop]; omega
theorem rcells_get3 {α : Type} {l : List α} {i : Nat} {e : α} (h : l[i]? = some e) : l.set i e = l := by
  obtain ⟨h1, h2⟩ := List.getElem?_eq_some_iff.1 h
  rw [← h2, List.set_getElem_self]
theorem rcells_get2 {es : L REnt} {i : Nat} {e : Path × REnt} (h : es[i]? = some e) : es.set i e = es := by
  obtain ⟨h1, h2⟩ := List.getElem?_eq_some_iff.1 h
  rw [← h2, List.set_getElem_self]
/-- One entry's slice and mark written. -/
theorem RRaw.reset {w w' : World} {r : Nat} {rf : Option Nat} {es : L REnt} {d : DS} {g cap : Nat} (h : RRaw w r rf (.slice (some ⟨g, 0, none⟩) es.length cap) es d) {i : Nat} (hi : i < es.length) {x' : REnt} (hc : Chg (fun b => b = g) w w')
    (hl : OwnK w' 0 194 3 (.slice (some ⟨g, 0, none⟩) es.length cap) es.length (rcells (es.set i (es[i].1, x')))) (hb' : Own w' 0 5 x'.v (bvs x'.f.b)) : RRaw w' r rf (.slice (some ⟨g, 0, none⟩) (es.set i (es[i].1, x')).length cap) (es.set i (es[i].1, x')) { d with fs := rfils (es.set i (es[i].1, x')) } := by
  have hg := h.self.1
  have hgr : ¬ r = g := fun e => hg (by rw [e]; rfl)
  have hlen : (es.set i (es[i].1, x')).length = es.length := List.length_set
  have hup : Up (es.set i (es[i].1, x')) := by
    have h1 : (es.set i (es[i].1, x')).map (·.1) = es.map (·.1) := by
      rw [List.map_set]
      exact rcells_get3 (by rw [List.getElem?_map, List.getElem?_eq_getElem hi]; rfl)
    have h2 : (es.map (·.1)).Pairwise fun a b => bytesBefore a b = true := List.pairwise_map.2 h.up
    rw [← h1] at h2
    exact List.pairwise_map.1 h2
  have hmem : ∀ e ∈ es.set i (es[i].1, x'), e = (es[i].1, x') ∨ e ∈ es := fun e he => (List.mem_or_eq_of_mem_set he).symm
  refine ⟨by rw [hlen]; exact h.row.chg hc hgr, by rw [hlen]; exact hl, hup, fun e he => ?_, rfl, h.nb, h.nm, fun e he => ?_⟩
  · rcases hmem e he with rfl | he
    · exact hb'
    · refine (h.file e he).chg hc fun b hb e1 => ?_
      subst e1
      obtain ⟨cur, hr⟩ := h.lst.row (b := b) rfl
      exact (h.file e he).ne hr (fun e => rty4 e.symm) hb
  · rcases hmem e he with rfl | he
    · exact h.pl es[i] (List.getElem_mem hi)
    · exact h.pl e he
theorem rcells_cut : ∀ (es : L REnt) (i : Nat) (h : i < es.length) (v : Value) (f : Fil) (s : Bool), f.sure = s → ((rcells es).set (i * 3 + 1) v).set (i * 3 + 2) (.bool s) = rcells (es.set i (es[i].1, ⟨v, f⟩))
  | [], _, h, _, _, _, _ => absurd h (Nat.not_lt_zero _)
  | e :: es, 0, _, v, f, s, hs => by subst hs; rfl
  | e :: es, i + 1, h, v, f, s, hs => by
    have := rcells_cut es i (by simpa using h) v f s hs
    rw [List.set_cons_succ, rcells_cons, rcells_cons, List.getElem_cons_succ, ← this, show (i + 1) * 3 + 1 = (i * 3 + 1) + 1 + 1 + 1 by omega, show (i + 1) * 3 + 2 = (i * 3 + 2) + 1 + 1 + 1 by omega]
    rfl
theorem rcrash_any (r : Nat) (rf : Option Nat) (d : DS) (S : Nat → Prop) (keep : Int) (hk : -9223372036854775808 ≤ keep ∧ keep ≤ 9223372036854775807) (w : World) (h : RefAt w r rf d S) (hn : d.fs.length ≤ 4096) (ht : tot d.fs ≤ 5000000) (hrf : ∀ b, rf = some b → b < w.heap.size) :
    Calls Tryz.prog 65 #[.pointer (some ⟨r, 0, none⟩), .int .i64 keep] w fun e w' => e = .returned (.tuple #[]) ∧ RefAt w' r rf (d.crash keep) (Grow S w w') ∧ Chg S w w' := by
  have hx0 : RefAt w r rf { d with fs := cutl keep.toNat 0 d.fs } (Grow S w w) := by
    rw [cutl_zero]
    obtain ⟨lv, es, h1, h2, h3, h4⟩ := h
    exact ⟨lv, es, h1, fun b hb => .inl (h2 b hb), fun b hb => hb.elim (h3 b) fun hx => by omega, fun b hb hx => hx.elim (h4 b hb) fun hx => by omega⟩
  obtain ⟨kn, hkn⟩ : ∃ kn, keep.toNat = kn := ⟨_, rfl⟩
  have hmax : max keep 0 = (kn : Int) := by omega
  rw [hkn] at hx0
  have HX := Lib.hid (And.intro hx0 (And.intro hkn (And.intro hk hrf)))
  have HSS := Lib.hid h.lt
  have HNF := Lib.hid (show ∀ b, rf = some b → ¬ S b by obtain ⟨_, _, _, _, _, h4⟩ := h; exact h4)
  clear h hx0 hkn hk hrf
  obtain ⟨n, hnn⟩ : ∃ n, d.fs.length = n := ⟨_, rfl⟩
  rw [hnn] at hn
  have HN := Lib.hid (And.intro hnn ht)
  clear hnn ht
  go_enter Tryz.func65, Tryz.ntmps65
  go_wp2_with fail
  go_loopw [4] (fun v4 wr => ∃ i : Nat, i ≤ n ∧ v4 = .int .i64 (i : Nat) ∧ Hid (RefAt wr r rf { d with fs := cutl kn i d.fs } (Grow S w wr)) ∧ Hid (Chg S w wr)) (fun v4 _ => (n - intOf v4).toNat)
  case atStart => exact ⟨0, by omega, rfl, Lib.hid HX.out.1, Lib.hid (Chg.refl _ _)⟩
  case round =>
    obtain ⟨i, hi, rfl, HR, HC⟩ := hrel
    obtain ⟨lv, es, hr, hf, -, -⟩ := HR.out
    have hen : es.length = n := by
      have h1 := hr.fs
      have h2 : (cutl kn i d.fs).length = es.length := by rw [show cutl kn i d.fs = rfils es from h1]; exact mapv_length _ _
      rw [cutl_length kn d.fs (by have := HN.out.1; omega), HN.out.1] at h2
      exact h2.symm
    obtain ⟨la, lc, hlv⟩ := hr.lst.slice
    subst hlv
    have c0 : wr.cell? ⟨r, 0, none⟩ = some (.slice la n lc) := by rw [← hen]; exact hr.row.cell (i := 0) rfl
    have HRR := Lib.hid (And.intro hr (And.intro hf hen))
    clear hr hf
    by_cases hlt : i < n
    · have hlt' : (i : Int) < (n : Int) := by omega
      have hil : i < es.length := by omega
      obtain ⟨g, cap, hlv, hcap, -, d1, d2, du⟩ := HRR.out.1.entry hil
      cases hlv
      have hdf : i < d.fs.length := by have := HN.out.1; omega
      obtain ⟨f, hf⟩ : ∃ f, d.fs[i].2 = f := ⟨_, rfl⟩
      have hef : es[i].2.f = f ∧ es[i].1 = d.fs[i].1 := by
        have h1 := cutl_at kn d.fs hdf
        rw [show cutl kn i d.fs = rfils es from HRR.out.1.fs] at h1
        unfold rfils mapv at h1
        rw [List.getElem?_map, List.getElem?_eq_getElem hil] at h1
        simp only [Option.map_some, Option.some.injEq] at h1
        rw [← hf, ← h1]
        exact ⟨rfl, rfl⟩
      have hfb : f.b.length ≤ 5000000 := by
        have := tot_mem (l := d.fs) (e := d.fs[i]) (List.getElem_mem hdf)
        rw [hf] at this
        have := HN.out.2
        omega
      rw [hef.1] at d2
      obtain ⟨xa, xc, hv⟩ := Own.slice' (HRR.out.1.file _ (List.getElem_mem hil))
      rw [bvs_len, hef.1] at hv
      rw [hv] at d1
      have HV := Lib.hid (And.intro hv (And.intro hef hf))
      clear hv hef hf
      obtain ⟨sv, hsv⟩ : ∃ sv, f.sure = sv := ⟨_, rfl⟩
      rw [hsv] at d2
      have HSV := Lib.hid hsv
      clear hsv
      cases sv with
      | true =>
        have hnext : cutl kn (i + 1) d.fs = cutl kn i d.fs := by
          rw [cutl_step kn d.fs hdf, HV.out.2.2]
          unfold cutf
          rw [if_pos HSV.out, ← HV.out.2.2]
          exact rcells_get3 (cutl_at kn d.fs hdf)
        have HR2 := Lib.hid (show RefAt wr r rf { d with fs := cutl kn (i + 1) d.fs } (Grow S w wr) by rw [hnext]; exact HR.out)
        clear hnext d1
        go_wp2_with fail
        exact ⟨⟨i + 1, by omega, by go_num, HR2, HC⟩, by simp [intOf]; omega⟩
      | false =>
        obtain ⟨L, hL⟩ : ∃ L, f.b.length = L := ⟨_, rfl⟩
        rw [hL] at d1 hfb
        obtain ⟨n1, hn1⟩ : ∃ n1, kn % (L + 1) = n1 := ⟨_, rfl⟩
        have hn1L : n1 ≤ L := by have := Nat.mod_lt kn (show 0 < L + 1 by omega); omega
        have hfile := HRR.out.1.file _ (List.getElem_mem hil)
        rw [HV.out.1, HV.out.2.1.1, hL] at hfile
        have hLc : L ≤ xc := by
          obtain ⟨a', c', e, hc', -⟩ := hfile.cells
          simp only [Value.slice.injEq] at e
          obtain ⟨-, h5, h6⟩ := e
          rw [h6, h5]; exact hc'
        have hcutb : (cutf kn f).b = f.b.take n1 ∧ (cutf kn f).sure = true := by
          unfold cutf
          rw [HSV.out, if_neg (by simp), hL, hn1]
          exact ⟨rfl, rfl⟩
        have hlen1 : (f.b.take n1).length = n1 := by rw [List.length_take, hL]; omega
        have hfile2 := Own.cut (n' := n1) (k := n1) hfile (by rw [bvs_len, hlen1])
        have HSRC : Hid (∀ w', Ext wr w' → Src Tryz.prog 1 24 (.slice xa n1 xc) (bvs (f.b.take n1)).length (bvs (f.b.take n1)) w') := Lib.hid fun w' hx => Cells.src (P := Tryz.prog) Tryz.underlying24 (Own.ext hfile2 hx).cells (bvs_one _)
        have em1 : ((kn : Int)).tmod ((L : Int) + 1) = (n1 : Int) := by rw [← hn1]; exact (Int.ofNat_tmod kn (L + 1)).symm
        have em2 : (kn : Int) % ((L : Int) + 1) = (n1 : Int) := by rw [← hn1]; norm_cast
        have ew : IntKind.i64.wrap ((L : Int) + 1) = (L : Int) + 1 := by rw [IntKind.wrap_i64]; omega
        have b0 : 0 ≤ (n1 : Int) := by omega
        have b1 : (n1 : Int) ≤ (L : Int) := by omega
        have b2 : (n1 : Int) ≤ (xc : Int) := by omega
        have hnz : ¬ ((L : Int) + 1 = 0) := by omega
        have HL1 := Lib.hid (And.intro hlen1 hcutb)
        have gu1 := du (i * 3 + 1)
        have gu2 := du (i * 3 + 2)
        have hgr : ¬ r = g := fun e => HRR.out.1.self.1 (by rw [e]; rfl)
        have hrl := HRR.out.1.row.lt
        have hgl : g < wr.heap.size := HRR.out.1.lst.lt rfl
        have hS : (fun w' : World => w'.cell? ⟨r, 0, none⟩ = some (.slice (some ⟨g, 0, none⟩) n lc) ∧ w'.cell? ⟨g, i * 3 + 1, none⟩ = some (.slice xa L xc)) wr.drew := ⟨c0, d1⟩
        clear hn1 hfile hcutb hlen1 hfile2 du hL hLc
        go_wp2_with fail
        refine wp_cut [37, 38, 39, 40, 41, 42, 43, 44, 45, 46, 47, 48, 49, 50, 51, 52, 53, 54] (fun w8 : World => ∃ (ad : Option Addr) (c4 : Nat), Chg (fun k => k = g) wr w8 ∧ OwnK w8 0 194 3 (.slice (some ⟨g, 0, none⟩) es.length lc) es.length ((rcells es).set (i * 3 + 1) (.slice ad n1 c4)) ∧ Own w8 wr.heap.size 5 (.slice ad n1 c4) (bvs (f.b.take n1))) ?_ ?_
        · refine wp_region_U (fun w' : World => w'.cell? ⟨r, 0, none⟩ = some (.slice (some ⟨g, 0, none⟩) n lc) ∧ w'.cell? ⟨g, i * 3 + 1, none⟩ = some (.slice xa L xc)) 18 (by kernel_rfl) ?_
          refine wpU_pureH (i := 0) (j := 37) (v := ?_) rfl rfl (by kernel_rfl) (by kernel_rfl) (by kernel_rfl) (by decide) (fun _ _ _ h => h) (fun _ => hS) (Or.inl ⟨by kernel_rfl, fun _ _ => ?_⟩) ?_
          rotate_left
          · go_simp
            try with_reducible rfl
          refine wpU_pureH (i := 1) (j := 38) (v := ?_) rfl rfl (by kernel_rfl) (by kernel_rfl) (by kernel_rfl) (by decide) (fun _ _ _ h => h) (fun _ => hS) (Or.inl ⟨by kernel_rfl, fun _ _ => ?_⟩) ?_
          rotate_left
          · go_simp
            try with_reducible rfl
          refine wpU_pureH (i := 2) (j := 39) (v := ?_) rfl rfl (by kernel_rfl) (by kernel_rfl) (by kernel_rfl) (by decide) (fun _ _ _ h => h) (fun _ => hS) (Or.inl ⟨by kernel_rfl, fun _ _ => ?_⟩) ?_
          rotate_left
          · go_simp
            try with_reducible rfl
          refine wpU_loadH (i := 3) (j := 40) (v := ?_) rfl rfl (by kernel_rfl) (by kernel_rfl) (by kernel_rfl) (by decide) (by kernel_rfl) (by kernel_rfl) (fun _ _ _ h => h) hS (Or.inl ⟨by kernel_rfl, fun wl hl => ?_⟩) ?_
          rotate_left
          · obtain ⟨l0, l1⟩ := hl
            go_simp
            try with_reducible rfl
          refine wpU_pureH (i := 4) (j := 41) (v := ?_) rfl rfl (by kernel_rfl) (by kernel_rfl) (by kernel_rfl) (by decide) (fun _ _ _ h => h) (fun _ => hS) (Or.inl ⟨by kernel_rfl, fun _ _ => ?_⟩) ?_
          rotate_left
          · go_simp
            try with_reducible rfl
          refine wpU_pureH (i := 5) (j := 42) (v := ?_) rfl rfl (by kernel_rfl) (by kernel_rfl) (by kernel_rfl) (by decide) (fun _ _ _ h => h) (fun _ => hS) (Or.inl ⟨by kernel_rfl, fun _ _ => ?_⟩) ?_
          rotate_left
          · go_simp
            try with_reducible rfl
          refine wpU_pureH (i := 6) (j := 43) (v := ?_) rfl rfl (by kernel_rfl) (by kernel_rfl) (by kernel_rfl) (by decide) (fun _ _ _ h => h) (fun _ => hS) (Or.inl ⟨by kernel_rfl, fun _ _ => ?_⟩) ?_
          rotate_left
          · go_simp
            try with_reducible rfl
          refine wpU_pureH (i := 7) (j := 44) (v := ?_) rfl rfl (by kernel_rfl) (by kernel_rfl) (by kernel_rfl) (by decide) (fun _ _ _ h => h) (fun _ => hS) (Or.inl ⟨by kernel_rfl, fun _ _ => ?_⟩) ?_
          rotate_left
          · go_simp
            try with_reducible rfl
          refine wpU_loadH (i := 8) (j := 45) (v := ?_) rfl rfl (by kernel_rfl) (by kernel_rfl) (by kernel_rfl) (by decide) (by kernel_rfl) (by kernel_rfl) (fun _ _ _ h => h) hS (Or.inl ⟨by kernel_rfl, fun wl hl => ?_⟩) ?_
          rotate_left
          · obtain ⟨l0, l1⟩ := hl
            go_simp
            try with_reducible rfl
          refine wpU_pureH (i := 9) (j := 46) (v := ?_) rfl rfl (by kernel_rfl) (by kernel_rfl) (by kernel_rfl) (by decide) (fun _ _ _ h => h) (fun _ => hS) (Or.inl ⟨by kernel_rfl, fun _ _ => ?_⟩) ?_
          rotate_left
          · go_simp
            try with_reducible rfl
          refine wpU_pureH (i := 10) (j := 47) (v := ?_) rfl rfl (by kernel_rfl) (by kernel_rfl) (by kernel_rfl) (by decide) (fun _ _ _ h => h) (fun _ => hS) (Or.inl ⟨by kernel_rfl, fun _ _ => ?_⟩) ?_
          rotate_left
          · go_simp
            try with_reducible rfl
          refine wpU_pureH (i := 11) (j := 48) (v := ?_) rfl rfl (by kernel_rfl) (by kernel_rfl) (by kernel_rfl) (by decide) (fun _ _ _ h => h) (fun _ => hS) (Or.inl ⟨by kernel_rfl, fun _ _ => ?_⟩) ?_
          rotate_left
          · go_simp
            try with_reducible rfl
          refine wpU_loadH (i := 12) (j := 49) (v := ?_) rfl rfl (by kernel_rfl) (by kernel_rfl) (by kernel_rfl) (by decide) (by kernel_rfl) (by kernel_rfl) (fun _ _ _ h => h) hS (Or.inl ⟨by kernel_rfl, fun wl hl => ?_⟩) ?_
          rotate_left
          · obtain ⟨l0, l1⟩ := hl
            go_simp
            try with_reducible rfl
          refine wpU_pureH (i := 13) (j := 50) (v := ?_) rfl rfl (by kernel_rfl) (by kernel_rfl) (by kernel_rfl) (by decide) (fun _ _ _ h => h) (fun _ => hS) (Or.inl ⟨by kernel_rfl, fun _ _ => ?_⟩) ?_
          rotate_left
          · go_simp
            try with_reducible rfl
          refine wpU_pureH (i := 14) (j := 51) (v := ?_) rfl rfl (by kernel_rfl) (by kernel_rfl) (by kernel_rfl) (by decide) (fun _ _ _ h => h) (fun _ => hS) (Or.inl ⟨by kernel_rfl, fun _ _ => ?_⟩) ?_
          rotate_left
          · go_simp
            try with_reducible rfl
          refine wpU_all [15] (by kernel_rfl) (by simp) ?_
          refine ReadyU.cons rfl (fun K hK => ?_) ReadyU.nil
          refine step_of_wp rfl (wp_appx (B := wr.heap.size) _ _ 24 24 5 (.int .u8 0) 1 rfl Tryz.underlying24 info_b1 rfl rfl (Own.nil _ _ _) (by go_simp) (HSRC.out _ (Ext.of_drawn wr 1)) (by rw [bvs_len, HL1.out.1]; simp [maxLen]; omega) (by rw [bvs_len, HL1.out.1]; simp; omega) (Nat.le_refl _) n1 (by rw [bvs_len, HL1.out.1]; simp) fun ad c4 w4 ha => ?_)
          have hc4 : Chg (fun _ => False) wr w4 := (Chg.of_ext (Ext.of_drawn wr 1) _).trans ((Chg.refl (fun _ => False) wr.drew).grown ha.2.1 (fun k hk => by cases hk))
          have hS : (fun w' : World => w'.cell? ⟨r, 0, none⟩ = some (.slice (some ⟨g, 0, none⟩) n lc) ∧ w'.cell? ⟨g, i * 3 + 1, none⟩ = some (.slice xa L xc)) w4 := ⟨hc4.cell c0 (fun h => h), hc4.cell d1 (fun h => h)⟩
          have c1 := hS.2
          have v1 := hc4.unfrozen d1 gu1 (fun h => h)
          refine hK.out _ _ (fun _ => hS) ?_
          refine wpU_putH (j := 52) rfl ?_
          clear hK K
          have hg4 : ∀ k, k < wr.heap.size → w4.heap[k]? = wr.heap[k]? := fun k hk => hc4.block k hk (fun h => h)
          have hcw : Chg (fun k => k = g) wr (w4.setCell ⟨g, i * 3 + 1, none⟩ (.slice ad n1 c4)) := (hc4.mono (T := fun k => k = g) fun _ _ h => h.elim).at g _ (.inl rfl) _
          have hlw := (HRR.out.1.lst.chg hc4 (fun _ _ h => h)).set (i * 3 + 1) (.slice ad n1 c4)
          have how : Own (w4.setCell ⟨g, i * 3 + 1, none⟩ (.slice ad n1 c4)) wr.heap.size 5 (.slice ad n1 c4) (bvs (f.b.take n1)) := by
            have h1 : Own w4 wr.heap.size 5 (.slice ad n1 c4) (bvs (f.b.take n1)) := by have := ha.1; rwa [List.nil_append] at this
            exact h1.chg ((Chg.refl (fun k => k = g) w4).at g (i * 3 + 1) (.inl rfl) _) fun b hb e => by have := h1.block b hb; omega
          have FIN := Lib.hid (And.intro hcw (And.intro hlw how))
          clear ha hc4 hg4 hcw hlw how
          refine wpU_pureH (i := 16) (j := 53) (v := ?_) rfl rfl (by kernel_rfl) (by kernel_rfl) (by kernel_rfl) (by decide) (fun _ _ _ h => h) (fun _ => hS) (Or.inl ⟨by kernel_rfl, fun _ _ => ?_⟩) ?_
          rotate_left
          · go_simp
            try with_reducible rfl
          refine wpU_pureH (i := 17) (j := 54) (v := ?_) rfl rfl (by kernel_rfl) (by kernel_rfl) (by kernel_rfl) (by decide) (fun _ _ _ h => h) (fun _ => hS) (Or.inl ⟨by kernel_rfl, fun _ _ => ?_⟩) ?_
          rotate_left
          · go_simp
            try with_reducible rfl
          refine wpU_all [18] (by kernel_rfl) (by simp) ?_
          refine ReadyU.cons rfl (fun K hK => ?_) ReadyU.nil
          simp only [List.set_cons_zero, List.set_cons_succ]
          go_simp
          refine hK.out _ _ (fun h => Bool.noConfusion (show true = false from h)) ?_
          clear hK K
          refine wpU_done (by kernel_rfl) ?_ _
          exact cut_end ⟨ad, c4, FIN.out⟩ (by kernel_rfl)
        · rintro us w8 ⟨ad, c4, hc8, hl8, ho8⟩
          have hr8 := HRR.out.1.row.chg hc8 hgr
          have c0 : w8.cell? ⟨r, 0, none⟩ = some (.slice (some ⟨g, 0, none⟩) n lc) := by rw [← HRR.out.2.2]; exact hr8.cell (i := 0) rfl
          have hrc : (rcells es)[i * 3 + 2]? = some (.bool es[i].2.f.sure) := (rcells_get hil).2.2
          have hd2 : ((rcells es).set (i * 3 + 1) (.slice ad n1 c4))[i * 3 + 2]? = some (.bool es[i].2.f.sure) := by rw [List.getElem?_set_ne (by omega)]; exact hrc
          obtain ⟨g', cap', e9, -, -, d9⟩ := hl8.cell hd2
          cases e9
          obtain ⟨cur9, hrow9⟩ := hl8.row (b := g) rfl
          have u9 := hrow9.unfrozen (i * 3 + 2)
          obtain ⟨sv9, hsv9⟩ : ∃ sv9, es[i].2.f.sure = sv9 := ⟨_, rfl⟩
          rw [hsv9] at d9
          have hc9 : Chg (fun k => k = g) wr (w8.setCell ⟨g, i * 3 + 2, none⟩ (.bool true)) := hc8.at g _ (.inl rfl) _
          have hl9 := hl8.set (i * 3 + 2) (.bool true)
          have ho9 : Own (w8.setCell ⟨g, i * 3 + 2, none⟩ (.bool true)) 0 5 (.slice ad n1 c4) (bvs (f.b.take n1)) := (ho8.chg ((Chg.refl (fun k => k = g) w8).at g (i * 3 + 2) (.inl rfl) (.bool true)) fun b hb e => by have := ho8.block b hb; omega).mono (Nat.zero_le _)
          rw [rcells_cut es i hil (.slice ad n1 c4) (cutf kn f) true HL1.out.2.2] at hl9
          have h9 := HRR.out.1.reset hil (x' := ⟨.slice ad n1 c4, cutf kn f⟩) hc9 hl9 (by rw [show (⟨.slice ad n1 c4, cutf kn f⟩ : REnt).f.b = f.b.take n1 from HL1.out.2.1]; exact ho9)
          have hfs : rfils (es.set i (es[i].1, ⟨.slice ad n1 c4, cutf kn f⟩)) = cutl kn (i + 1) d.fs := by
            rw [cutl_step kn d.fs hdf, show cutl kn i d.fs = rfils es from HRR.out.1.fs, HV.out.2.2]
            unfold rfils mapv
            rw [List.map_set, HV.out.2.1.2]
          rw [hfs] at h9
          have hgG : Grow S w wr g := HRR.out.2.1 g (.inr (.inl rfl))
          have hsz : wr.heap.size ≤ (w8.setCell ⟨g, i * 3 + 2, none⟩ (.bool true)).heap.size := hc9.size
          have HC9 := Lib.hid (show Chg S w (w8.setCell ⟨g, i * 3 + 2, none⟩ (.bool true)) from HC.out.then (hc9.mono fun k _ hk => by rw [hk]; exact hgG))
          have HR9 := Lib.hid (show RefAt (w8.setCell ⟨g, i * 3 + 2, none⟩ (.bool true)) r rf { d with fs := cutl kn (i + 1) d.fs } (Grow S w (w8.setCell ⟨g, i * 3 + 2, none⟩ (.bool true))) from
            ⟨_, _, h9, fun b hb => by
              have grow : ∀ b, Grow S w wr b → Grow S w (w8.setCell ⟨g, i * 3 + 2, none⟩ (.bool true)) b := fun b hb => hb.elim .inl fun hb => .inr ⟨hb.1, Nat.lt_of_lt_of_le hb.2 hsz⟩
              rcases hb with hb | hb | ⟨e, he, hb⟩
              · exact grow b (HRR.out.2.1 b (.inl hb))
              · exact grow b (HRR.out.2.1 b (.inr (.inl hb)))
              · rcases List.mem_or_eq_of_mem_set he with he | rfl
                · exact grow b (HRR.out.2.1 b (.inr (.inr ⟨e, he, hb⟩)))
                · exact .inr ⟨Nat.le_trans HC.out.size (ho8.block b hb), ho9.lt hb⟩,
             fun b hb => hb.elim (fun hb => Nat.lt_of_lt_of_le (HSS.out b hb) (Nat.le_trans HC.out.size hsz)) fun hb => hb.2,
             fun b hb hg => hg.elim (HNF.out b hb) fun hg => by have := HX.out.2.2.2 b hb; omega⟩)
          clear hc8 hl8 ho8 hr8 hrc hd2 hrow9 hsv9 hc9 hl9 ho9 h9 hfs hgG hsz hS d1 d2
          simp only [setAll, List.foldl_cons, List.foldl_nil, List.set_cons_zero, List.set_cons_succ]
          go_wp2_with fail
          exact ⟨⟨i + 1, by omega, by go_num, HR9, HC9⟩, by simp [intOf]; omega⟩
    · obtain rfl : n = i := by omega
      clear hlt
      have hend : ({ d with fs := cutl kn n d.fs } : DS) = d.crash keep := by
        rw [← HN.out.1, cutl_all, ← HX.out.2.1]; rfl
      have HE := Lib.hid hend
      clear hend
      go_wp2_with fail
      go_end0
      refine ⟨rfl, ?_, HC.out⟩
      rw [← HE.out]; exact HR.out
end Go.Proofs.YthkbbcdnmdjhdaaGreat
