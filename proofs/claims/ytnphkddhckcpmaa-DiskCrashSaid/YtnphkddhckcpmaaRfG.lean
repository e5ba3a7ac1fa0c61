/-
  The reference's disk: List; its disk and its fuse as things of their own.
-/
import Derived.Test.YtnphkddhckcpmaaRfF
namespace Go.Proofs.Ytnphkddhckcpmaa
open Go.RowKit Dk
set_option maxRecDepth 100000
set_option maxHeartbeats 4000000
attribute [local go_sem] min_int2 max_int2 bstr_toList bstr_size

def RListOut (r : Nat) (rf : Option Nat) (z : Option FS) (d : DS) (S : Nat → Prop) (p : Path) (w : World) (e : Ending) (w' : World) : Prop :=
  ∃ u, e = .returned (.tuple #[u, .int .i64 ((begins z d []).1 : Nat)]) ∧ Own w' w.heap.size 9 u (pvs (lists z d p)) ∧ RzAt w' rf (begins z d []).2.1 ∧ RefAt w' r rf (begins z d []).2.2 S ∧ Chg (fun b => S b ∨ rf = some b) w w'
theorem rlist_any (r : Nat) (rf : Option Nat) (z : Option FS) (d : DS) (S : Nat → Prop) (p : Path) (w : World) (h : RefAt w r rf d S) (hz : RzAt w rf z) (hzo : zops z < 1099511627776) (hn : d.fs.length ≤ 4096) :
    Calls Try.prog 50 #[.pointer (some ⟨r, 0, none⟩), .string (bstr p)] w (RListOut r rf z d S p w) := by
  obtain ⟨lv, es, h, hS1, hS2, hS3⟩ := h
  have H := Lib.hid (And.intro h hz)
  have HS := Lib.hid (And.intro hS1 (And.intro hS2 (And.intro hS3 (fun b hb => hz.lt b hb))))
  have hlen : es.length ≤ 4096 := by have h1 := h.fs; rw [h1] at hn; simpa [rfils, mapv_length] using hn
  have HFS := Lib.hid h.fs
  clear h hz hS1 hS2 hS3
  go_enter Try.func50, Try.ntmps50
  go_wp2_with fail
  refine (ask_any r rf z lv es d [] _ _ H.out.1 H.out.2 hzo (by simp) (by simp) (Own.nil _ _ _)).mono ?_; rintro e w2 ⟨rfl, hz2, h2, hg2, hsz2⟩
  have HG2 := Lib.hid (hg2.mono (T := fun b => S b ∨ rf = some b) fun b _ hb => by
    rcases hb with rfl | hb
    · exact .inl (HS.out.1 _ (.inl rfl))
    · exact .inr hb)
  have HZ2 := Lib.hid hz2
  have H2 := Lib.hid h2
  clear hz2 h2 hg2 hsz2
  obtain ⟨n, hnn⟩ : ∃ n, (begins z d []).1 = n := ⟨_, rfl⟩
  rw [hnn]
  have HN := Lib.hid hnn
  clear hnn
  by_cases h0 : n = 0
  case neg =>
    have q1 : ((n : Int) != 0) = true := by simp; omega
    have HL := Lib.hid (show lists z d p = [] by unfold lists; rw [HN.out, if_neg h0])
    clear h0
    go_wp2_with fail
    go_ret2
    exact ⟨.slice none 0 0, by rw [HN.out]; rfl, by rw [HL.out]; exact Own.nil _ _ _, HZ2.out, H2.out.refAt' HS.out.1 HS.out.2.1 HS.out.2.2.1 HG2.out.size, HG2.out⟩
  subst h0
  have q1 : (((0 : Nat) : Int) != 0) = false := rfl
  have HL := Lib.hid (show lists z d p = having p (paths es) by unfold lists; rw [HN.out, if_pos rfl, HFS.out]; unfold paths rfils mapv; rw [List.map_map]; rfl)
  obtain ⟨la, lc, hlv⟩ := H2.out.lst.slice
  subst hlv
  obtain ⟨m, hm⟩ : ∃ m, es.length = m := ⟨_, rfl⟩
  rw [hm] at hlen
  have HM := Lib.hid hm
  clear hm
  go_wp2_with fail
  go_loopw [7, 8] (fun v7 v8 wr => ∃ (i : Nat) (ps : List Path) (a : Option Addr) (c : Nat), i ≤ m ∧ v8 = .int .i64 (i : Nat) ∧ v7 = .slice a ps.length c ∧ Hid (ps = having p ((paths es).take i)) ∧ Hid (Own wr w2.heap.size 9 (.slice a ps.length c) (pvs ps)) ∧ Hid (Ext w2 wr)) (fun _ v8 _ => (m - intOf v8).toNat)
  case atStart => exact ⟨0, [], _, _, by omega, rfl, rfl, Lib.hid rfl, Lib.hid (Own.nil _ _ _), Lib.hid (Ext.refl _)⟩
  case round =>
    obtain ⟨i, ps, a, c, hi, rfl, rfl, HP, HO, HE⟩ := hrel
    have c0 : wr.cell? ⟨r, 0, none⟩ = some (.slice la m lc) := by rw [← HM.out]; exact (H2.out.ext HE.out).row.cell (i := 0) rfl
    by_cases hlt : i < m
    · have hlt' : (i : Int) < (m : Int) := by omega
      obtain ⟨g, cap, hlv, hcap, d1, -, -, -⟩ := (H2.out.ext HE.out).entry (i := i) (by rw [HM.out]; exact hlt)
      cases hlv
      obtain ⟨q, hq⟩ : ∃ q, (es[i]'(by rw [HM.out]; exact hlt)).1 = q := ⟨_, rfl⟩
      rw [hq] at d1
      have hpi : (paths es)[i]? = some q := by unfold paths; rw [List.getElem?_map, List.getElem?_eq_getElem (by rw [HM.out]; exact hlt)]; simp [hq]
      have hst : having p ((paths es).take (i + 1)) = ps ++ (if p.isPrefixOf q then [q] else []) := by
        rw [HP.out]
        unfold having
        rw [List.take_add_one, List.filter_append, hpi]
        simp only [Option.toList_some, List.filter_cons, List.filter_nil]
      have hpl : ps.length ≤ 4096 := by
        have e1 : ps.length ≤ ((paths es).take i).length := by rw [HP.out]; exact List.length_filter_le _ _
        have e2 := List.length_take_le i (paths es)
        omega
      have HD1 := Lib.hid d1
      have HST := Lib.hid hst
      clear hq hpi hst
      go_wp2_with fail
      refine (rprefix_any q p _).mono ?_; rintro e w3 ⟨rfl, x3⟩
      have HE3 := Lib.hid (Ext.trans HE.out x3)
      have HO3 := Lib.hid (Own.ext HO.out x3)
      replace c0 := x3.cell c0
      replace d1 := x3.cell HD1.out
      clear x3
      cases hpq : p.isPrefixOf q with
      | false =>
        have HP2 := Lib.hid (show ps = having p ((paths es).take (i + 1)) by rw [HST.out, hpq]; simp)
        clear hpq
        go_wp2_with fail
        exact ⟨⟨i + 1, ps, a, c, by omega, by go_num, rfl, HP2, HO3, HE3⟩, by simp [intOf]; omega⟩
      | true =>
        have HP2 := Lib.hid (show ps ++ [q] = having p ((paths es).take (i + 1)) by rw [HST.out, hpq]; simp)
        clear hpq
        have x4 : Ext w3 (w3.alloc (.cells #[.string (bstr q)] 9)) := (Ext.refl w3).alloc (Nat.le_refl _) _
        have HA := Lib.hid (And.intro (Own.ext HO3.out x4) (And.intro (Strs.one w3 q) (Ext.trans HE3.out x4)))
        clear x4
        go_wp2_with (at_builtin; refine list_of_wp rfl fun K hK => wp_appx _ _ 39 39 9 (.string ByteArray.empty) 16 rfl Try.underlying39 info_str rfl rfl HA.out.1 rfl (Cells.src Try.underlying39 (Own.cells HA.out.2.1) (pvs_one _)) (by simp [pvs, maxLen]; omega) (by simp [pvs]; omega) HA.out.2.2.size (ps.length + 1) (by simp [pvs]) fun ad c2 w4 ha => hK _ _ ?_)
        obtain ⟨ha1, ha2, -⟩ := ha
        have hX4 := Chg.after2 HA.out.2.2 ((Chg.refl (fun b => (Value.slice a ps.length c).ownBlock = some b) _).grown ha2 (fun k hk => .inl hk)) (fun b hb => HO.out.block b hb)
        have e4 : pvs ps ++ pvs [q] = pvs (ps ++ [q]) := by simp [pvs]
        rw [e4] at ha1
        have e5 : (ps ++ [q]).length = ps.length + 1 := by simp
        have HN4 := Lib.hid (show Own w4 w2.heap.size 9 (.slice ad (ps ++ [q]).length c2) (pvs (ps ++ [q])) by rw [e5]; exact ha1)
        have HX4 := Lib.hid hX4
        have HE5 := Lib.hid e5
        clear ha1 ha2 hX4 e4 e5
        go_wp2_with fail
        exact ⟨⟨i + 1, ps ++ [q], ad, c2, by omega, by go_num, by rw [HE5.out], HP2, HN4, HX4⟩, by simp [intOf]; omega⟩
    · obtain rfl : i = m := by omega
      clear hlt
      have HW := Lib.hid (show ps = having p (paths es) by
        have := HP.out
        rwa [List.take_of_length_le (by unfold paths; rw [List.length_map, HM.out]; exact Nat.le_refl _)] at this)
      go_wp2_with fail
      go_ret2
      exact ⟨.slice a ps.length c, by rw [HN.out]; rfl, by rw [HL.out, ← HW.out]; exact HO.out.mono HG2.out.size, HZ2.out.chg (Chg.of_ext HE.out (fun _ => False)) (fun _ _ h => h), (H2.out.ext HE.out).refAt' HS.out.1 HS.out.2.1 HS.out.2.2.1 (Nat.le_trans HG2.out.size HE.out.size), HG2.out.trans (Chg.of_ext HE.out _)⟩
def rfuseT (fp : Option Nat) (z : Option FS) : Thing :=
  ⟨fun w T => RzAt w fp z ∧ ∀ b, T b ↔ fp = some b, fun h b hb => h.1.lt b ((h.2 b).1 hb), fun h hc hn => ⟨h.1.chg hc fun b hb => hn b ((h.2 b).2 hb), h.2⟩⟩
def refT (r : Nat) (fp : Option Nat) (d : DS) : Thing := ⟨fun w T => RefAt w r fp d T, fun h => h.lt, fun h hc hn => h.chg hc hn⟩
section
variable {w0 w w' : World} {Y Z : Thing} {r : Nat} {fp : Option Nat} {z : Option FS} {d : DS}
theorem Lab.rz (h : Lab w0 w ((rfuseT fp z).star Z)) : RzAt w fp z := by obtain ⟨T, h⟩ := h.left.get; exact h.1
theorem Lab.rnofuse (h : Lab w0 w Y) : Lab w0 w ((rfuseT none none).star Y) := h.new (Ext.refl w) (T := fun _ => False) ⟨trivial, fun b => ⟨False.elim, fun e => by cases e⟩⟩ fun _ h => h.elim
theorem Lab.newref (n : Int) (h : Lab w0 w ((rfuseT fp z).star Y)) : Calls Try.prog 34 #[.int .i64 n, fptr fp] w fun e w' => ∃ r, e = .returned (.pointer (some ⟨r, 0, none⟩)) ∧ Lab w0 w' ((rfuseT fp z).star ((refT r fp ⟨mostOf n, false, 0, []⟩).star Y)) :=
  (newref_any n fp w fun b hb => h.rz.lt b hb).mono fun _ w' ⟨h1, h2, h3⟩ => ⟨_, h1, (h.new h3 (X := refT w.heap.size fp ⟨mostOf n, false, 0, []⟩) (T := Grow (fun _ => False) w w') h2 fun _ hb => hb.elim False.elim fun h => h.1).swap⟩
theorem Lab.refout {P : Program} {f : FuncId} {args : Array Value} {y : Nat × Option FS × DS} (hL : Lab w0 w ((rfuseT fp z).star ((refT r fp d).star Y))) (h : ∀ S, RzAt w fp z → RefAt w r fp d S → Calls P f args w (RefOut r fp S w y)) :
    Calls P f args w fun e w' => e = .returned (.int .i64 (y.1 : Nat)) ∧ Lab w0 w' ((rfuseT fp y.2.1).star ((refT r fp y.2.2).star Y)) := by
  refine (Lab.call (Q := fun X' e => e = .returned (.int .i64 (y.1 : Nat)) ∧ X' = (rfuseT fp y.2.1).star (refT r fp y.2.2)) hL.assoc' ?_).mono ?_
  · rintro T ⟨A, S, ⟨h1, h2⟩, h3, h4, h5⟩
    have hS : RefAt w r fp d S := h3
    refine (h S h1 hS).mono fun e w' ⟨k1, k2, k3, k4⟩ => ⟨_, ⟨k1, rfl⟩, k4.mono (fun b _ hb => (h5 b).2 (hb.elim .inr fun hb => .inl ((h2 b).2 hb))), fun b => fp = some b ∨ Grow S w w' b, fun b hb => ?_, fun b => fp = some b, Grow S w w', ⟨k2, fun _ => Iff.rfl⟩, k3, fun b hb hg => ?_, fun _ => Iff.rfl⟩
    · rcases hb with hb | hb | hb
      · exact .inl ((h5 b).2 (.inl ((h2 b).2 hb)))
      · exact .inl ((h5 b).2 (.inr hb))
      · exact .inr hb
    · obtain ⟨_, _, _, _, _, h6⟩ := k3
      exact h6 b hb hg
  · rintro e w' ⟨X', ⟨h1, rfl⟩, h2⟩
    exact ⟨h1, h2.assoc⟩
theorem Lab.refturn {P : Program} {f : FuncId} {args : Array Value} {d' : DS} {e0 : Ending} (hL : Lab w0 w ((refT r fp d).star Y)) (h : ∀ S, RefAt w r fp d S → Calls P f args w fun e w' => e = e0 ∧ RefAt w' r fp d' S ∧ Chg S w w') :
    Calls P f args w fun e w' => e = e0 ∧ Lab w0 w' ((refT r fp d').star Y) := by
  refine (Lab.call (Q := fun X' e => e = e0 ∧ X' = refT r fp d') hL ?_).mono ?_
  · intro T hT
    exact (h T hT).mono fun e w' ⟨k1, k2, k3⟩ => ⟨_, ⟨k1, rfl⟩, k3, T, fun b hb => .inl hb, k2⟩
  · rintro e w' ⟨X', ⟨h1, rfl⟩, h2⟩
    exact ⟨h1, h2⟩
/-- An operation that also hands out a slice of its own. -/
theorem Lab.refgive {P : Program} {f : FuncId} {args : Array Value} {z' : Option FS} {d' : DS} {ty : TypeId} {cs : List Value} {E : Value → Ending} (hL : Lab w0 w ((rfuseT fp z).star ((refT r fp d).star Y)))
    (h : ∀ S, RzAt w fp z → RefAt w r fp d S → Calls P f args w fun e w' => ∃ u, e = E u ∧ Own w' w.heap.size ty u cs ∧ RzAt w' fp z' ∧ RefAt w' r fp d' S ∧ Chg (fun b => S b ∨ fp = some b) w w') :
    Calls P f args w fun e w' => ∃ u, e = E u ∧ Lab w0 w' ((ownT ty u cs).star ((rfuseT fp z').star ((refT r fp d').star Y))) := by
  refine (Lab.call (Q := fun X' e => ∃ u, e = E u ∧ X' = (ownT ty u cs).star ((rfuseT fp z').star (refT r fp d'))) hL.assoc' ?_).mono ?_
  · rintro T ⟨A, S, ⟨h1, h2⟩, h3, h4, h5⟩
    have hS : RefAt w r fp d S := h3
    have lt := hS.lt
    have ltf := h1.lt
    refine (h S h1 hS).mono fun e w' ⟨u, k1, k0, k2, k3, k4⟩ => ⟨_, ⟨u, k1, rfl⟩, k4.mono (fun b _ hb => (h5 b).2 (hb.elim .inr fun hb => .inl ((h2 b).2 hb))), fun b => u.ownBlock = some b ∨ (fp = some b ∨ S b), fun b hb => ?_, fun b => u.ownBlock = some b, fun b => fp = some b ∨ S b, ⟨k0.mono (Nat.zero_le _), fun _ => Iff.rfl⟩,
      ⟨fun b => fp = some b, S, ⟨k2, fun _ => Iff.rfl⟩, k3, fun b hb hg => ?_, fun _ => Iff.rfl⟩, fun b hb hg => ?_, fun _ => Iff.rfl⟩
    · rcases hb with hb | hb | hb
      · exact .inr ⟨k0.block b hb, k0.lt hb⟩
      · exact .inl ((h5 b).2 (.inl ((h2 b).2 hb)))
      · exact .inl ((h5 b).2 (.inr hb))
    · obtain ⟨_, _, _, _, _, h6⟩ := k3
      exact h6 b hb hg
    · have := k0.block b hb
      rcases hg with hg | hg
      · have := ltf b hg; omega
      · have := lt b hg; omega
  · rintro e w' ⟨X', ⟨u, h1, rfl⟩, h2⟩
    exact ⟨u, h1, h2.assoc.ent (.star (.refl _) .assoc)⟩
theorem Lab.rwrite (hL : Lab w0 w ((rfuseT fp z).star ((refT r fp d).star Y))) (p : Path) (v : Value) (b : List UInt8) (hzo : zops z < 1099511627776) (hp : p.length ≤ maxLen) (hv : Bytes w v b) (hb : b.length ≤ 140737488351232) (ht : tot d.fs ≤ 1099511627776) (hn : d.fs.length ≤ 4096) :
    Calls Try.prog 46 #[.pointer (some ⟨r, 0, none⟩), .string (bstr p), v] w fun e w' => e = .returned (.int .i64 ((writes z d p b).1 : Nat)) ∧ Lab w0 w' ((rfuseT fp (writes z d p b).2.1).star ((refT r fp (writes z d p b).2.2).star Y)) :=
  hL.refout fun S hz hS => rwrite_any r fp z d S p v b w hS hz hzo hp hn hv hb ht
theorem Lab.rsync (hL : Lab w0 w ((rfuseT fp z).star ((refT r fp d).star Y))) (p : Path) (hzo : zops z < 1099511627776) (hp : p.length ≤ maxLen) (hn : d.fs.length ≤ 4096) :
    Calls Try.prog 47 #[.pointer (some ⟨r, 0, none⟩), .string (bstr p)] w fun e w' => e = .returned (.int .i64 ((syncs z d p).1 : Nat)) ∧ Lab w0 w' ((rfuseT fp (syncs z d p).2.1).star ((refT r fp (syncs z d p).2.2).star Y)) :=
  hL.refout fun S hz hS => rsync_any r fp z d S p w hS hz hzo hp hn
theorem Lab.rdelete (hL : Lab w0 w ((rfuseT fp z).star ((refT r fp d).star Y))) (p : Path) (hzo : zops z < 1099511627776) (hp : p.length ≤ maxLen) (hn : d.fs.length ≤ 4096) :
    Calls Try.prog 49 #[.pointer (some ⟨r, 0, none⟩), .string (bstr p)] w fun e w' => e = .returned (.int .i64 ((deletes z d p).1 : Nat)) ∧ Lab w0 w' ((rfuseT fp (deletes z d p).2.1).star ((refT r fp (deletes z d p).2.2).star Y)) :=
  hL.refout fun S hz hS => rdelete_any r fp z d S p w hS hz hzo hp hn
theorem Lab.rrename (hL : Lab w0 w ((rfuseT fp z).star ((refT r fp d).star Y))) (p q : Path) (hzo : zops z < 1099511627776) (hp : p.length ≤ maxLen) (hq : q.length ≤ maxLen) (hn : d.fs.length ≤ 4096) :
    Calls Try.prog 48 #[.pointer (some ⟨r, 0, none⟩), .string (bstr p), .string (bstr q)] w fun e w' => e = .returned (.int .i64 ((renames z d p q).1 : Nat)) ∧ Lab w0 w' ((rfuseT fp (renames z d p q).2.1).star ((refT r fp (renames z d p q).2.2).star Y)) :=
  hL.refout fun S hz hS => rrename_any r fp z d S p q w hS hz hzo hp hq hn
theorem Lab.rread (hL : Lab w0 w ((rfuseT fp z).star ((refT r fp d).star Y))) (p : Path) (hzo : zops z < 1099511627776) (hp : p.length ≤ maxLen) (ht : tot d.fs ≤ 1000000) (hn : d.fs.length ≤ 4096) :
    Calls Try.prog 45 #[.pointer (some ⟨r, 0, none⟩), .string (bstr p)] w fun e w' => ∃ u, e = .returned (.tuple #[u, .int .i64 (opens z d p [] : Nat)]) ∧ Lab w0 w' ((ownT 5 u (bvs (readb z d p))).star ((rfuseT fp (begins z d [p]).2.1).star ((refT r fp (begins z d [p]).2.2).star Y))) :=
  hL.refgive fun S hz hS => rread_any r fp z d S p w hS hz hzo hp hn ht
theorem Lab.rlist (hL : Lab w0 w ((rfuseT fp z).star ((refT r fp d).star Y))) (p : Path) (hzo : zops z < 1099511627776) (hn : d.fs.length ≤ 4096) :
    Calls Try.prog 50 #[.pointer (some ⟨r, 0, none⟩), .string (bstr p)] w fun e w' => ∃ u, e = .returned (.tuple #[u, .int .i64 ((begins z d []).1 : Nat)]) ∧ Lab w0 w' ((ownT 9 u (pvs (lists z d p))).star ((rfuseT fp (begins z d []).2.1).star ((refT r fp (begins z d []).2.2).star Y))) :=
  hL.refgive fun S hz hS => rlist_any r fp z d S p w hS hz hzo hn
end
end Go.Proofs.Ytnphkddhckcpmaa
