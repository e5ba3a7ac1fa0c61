/-
  The reference's disk: Read, Sync, Delete.
-/
import Derived.Test.YtnphkddhckcpmaaRfC
namespace Go.Proofs.Ytnphkddhckcpmaa
open Go.RowKit Dk
set_option maxRecDepth 100000
set_option maxHeartbeats 4000000
attribute [local go_sem] min_int2 max_int2 bstr_toList bstr_size

/-- What an operation of the reference leaves. -/
def RefOut (r : Nat) (rf : Option Nat) (S : Nat → Prop) (w : World) (res : Nat × Option FS × DS) (e : Ending) (w' : World) : Prop :=
  e = .returned (.int .i64 (res.1 : Nat)) ∧ RzAt w' rf res.2.1 ∧ RefAt w' r rf res.2.2 (Grow S w w') ∧ Chg (fun b => S b ∨ rf = some b) w w'
theorem RRaw.refAt {w w' : World} {r : Nat} {rf : Option Nat} {lv : Value} {es : L REnt} {d : DS} {S : Nat → Prop} (h : RRaw w' r rf lv es d) (h1 : ∀ b, RFoot r lv es b → Grow S w w' b) (h2 : ∀ b, S b → b < w.heap.size) (h3 : ∀ b, rf = some b → ¬ S b) (h4 : ∀ b, rf = some b → b < w.heap.size) (hs : w.heap.size ≤ w'.heap.size) : RefAt w' r rf d (Grow S w w') :=
  ⟨lv, es, h, h1, fun b hb => hb.elim (fun hb => Nat.lt_of_lt_of_le (h2 b hb) hs) fun hb => hb.2, fun b hb hg => hg.elim (h3 b hb) fun hg => by have := h4 b hb; omega⟩
theorem RRaw.refAt' {w w' : World} {r : Nat} {rf : Option Nat} {lv : Value} {es : L REnt} {d : DS} {S : Nat → Prop} (h : RRaw w' r rf lv es d) (h1 : ∀ b, RFoot r lv es b → S b) (h2 : ∀ b, S b → b < w.heap.size) (h3 : ∀ b, rf = some b → ¬ S b) (hs : w.heap.size ≤ w'.heap.size) : RefAt w' r rf d S :=
  ⟨lv, es, h, h1, fun b hb => Nat.lt_of_lt_of_le (h2 b hb) hs, h3⟩
theorem info_b1 : (Try.prog.info? 5).map (fun i => (i.zero, i.size, i.bytes)) = some (some (.int .u8 0), 1, 1) := by kernel_rfl
def RReadOut (r : Nat) (rf : Option Nat) (z : Option FS) (d : DS) (S : Nat → Prop) (p : Path) (w : World) (e : Ending) (w' : World) : Prop :=
  ∃ u, e = .returned (.tuple #[u, .int .i64 (opens z d p [] : Nat)]) ∧ Own w' w.heap.size 5 u (bvs (readb z d p)) ∧ RzAt w' rf (begins z d [p]).2.1 ∧ RefAt w' r rf (begins z d [p]).2.2 S ∧ Chg (fun b => S b ∨ rf = some b) w w'
theorem rread_any (r : Nat) (rf : Option Nat) (z : Option FS) (d : DS) (S : Nat → Prop) (p : Path) (w : World) (h : RefAt w r rf d S) (hz : RzAt w rf z) (hzo : zops z < 1099511627776) (hp : p.length ≤ maxLen) (hn : d.fs.length ≤ 4096) (ht : tot d.fs ≤ 1000000) :
    Calls Try.prog 45 #[.pointer (some ⟨r, 0, none⟩), .string (bstr p)] w (RReadOut r rf z d S p w) := by
  obtain ⟨lv, es, h, hS1, hS2, hS3⟩ := h
  have x0 : Ext w (w.alloc (.cells #[.string (bstr p)] 9)) := (Ext.refl w).alloc (Nat.le_refl _) _
  have hst := Strs.one w p
  obtain ⟨w1, hw1⟩ : ∃ w1, w.alloc (.cells #[.string (bstr p)] 9) = w1 := ⟨_, rfl⟩
  have HW1 := Lib.hid hw1
  rw [hw1] at x0 hst
  have H := Lib.hid (And.intro (h.ext x0) (And.intro (hz.chg (Chg.of_ext x0 (fun _ => False)) (fun _ _ h => h)) (And.intro hst x0)))
  have HS := Lib.hid (And.intro hS1 (And.intro hS2 (And.intro hS3 (fun b hb => hz.lt b hb))))
  have hlen : es.length ≤ 4096 := by have h1 := h.fs; rw [h1] at hn; simpa [rfils, mapv_length] using hn
  have HP := Lib.hid hp
  clear h hz hS1 hS2 hS3 hst hw1 x0 hp
  go_enter Try.func45, Try.ntmps45
  go_wp2_with fail
  rw [HW1.out]
  refine (ask_any r rf z lv es d [p] _ _ H.out.1 H.out.2.1 hzo (by simp) (by simpa using HP.out) H.out.2.2.1).mono ?_; rintro e w2 ⟨rfl, hz2, h2, hg2, hsz2⟩
  have HG2 := Lib.hid ((Chg.of_ext H.out.2.2.2 (fun b => S b ∨ rf = some b)).trans (hg2.mono (T := fun b => S b ∨ rf = some b) fun b _ hb => by
    rcases hb with rfl | hb
    · exact .inl (HS.out.1 _ (.inl rfl))
    · exact .inr hb))
  have HGR := Lib.hid ((Chg.of_ext H.out.2.2.2 (fun b => b = r ∨ rf = some b)).trans hg2)
  have HZ2 := Lib.hid hz2
  have H2 := Lib.hid h2
  have HFS := Lib.hid (H.out.1.fs)
  clear hz2 h2 hg2 hsz2 HW1
  obtain ⟨n, hnn⟩ : ∃ n, (begins z d [p]).1 = n := ⟨_, rfl⟩
  rw [hnn]
  have HN := Lib.hid hnn
  clear hnn
  by_cases h0 : n = 0
  case neg =>
    have q1 : ((n : Int) != 0) = true := by simp; omega
    have HO := Lib.hid (show opens z d p [] = n by unfold opens; rw [HN.out, if_neg h0])
    have HNZ := Lib.hid h0
    clear h0
    go_wp2_with fail
    go_ret2
    exact ⟨.slice none 0 0, by rw [HO.out]; rfl, by rw [show readb z d p = [] by unfold readb; rw [HO.out, if_neg HNZ.out]]; exact Own.nil _ _ _, HZ2.out, H2.out.refAt' HS.out.1 HS.out.2.1 HS.out.2.2.1 HG2.out.size, HG2.out⟩
  subst h0
  have q1 : (((0 : Nat) : Int) != 0) = false := rfl
  have hokp : okP p = true := by
    have h1 := HN.out
    unfold begins at h1
    by_cases c1 : (ticks z).1 = false
    · rw [if_pos c1] at h1; cases h1
    · rw [if_neg c1] at h1
      by_cases c2 : d.off = true
      · rw [if_pos c2] at h1; cases h1
      · rw [if_neg c2] at h1
        by_cases c3 : 0 < d.bad
        · rw [if_pos c3] at h1; cases h1
        · rw [if_neg c3] at h1
          by_cases c4 : [p].all okP = true
          · simpa using c4
          · rw [if_neg c4] at h1; cases h1
  have HOK := Lib.hid hokp
  clear hokp
  go_wp2_with fail
  refine (at_any r rf lv es _ p _ H2.out (by omega) (Nat.le_trans (by have := HOK.out; unfold okP at this; exact (of_decide_eq_true this).2) (by decide))).mono ?_; rintro e w3 ⟨rfl, x3⟩
  have H3 := Lib.hid (H2.out.ext x3)
  have HZ3 := Lib.hid (HZ2.out.chg (Chg.of_ext x3 (fun _ => False)) (fun _ _ h => h))
  have HG3 := Lib.hid (HG2.out.trans (Chg.of_ext x3 _))
  clear x3 H2 HZ2 HG2
  cases hx : get p es with
  | none =>
    have HO := Lib.hid (show opens z d p [] = 6 by unfold opens; rw [HN.out, if_pos rfl, HFS.out]; unfold rfils; rw [get_mapv, hx]; rfl)
    go_wp2_with fail
    go_ret2
    exact ⟨.slice none 0 0, by rw [HO.out]; rfl, by rw [show readb z d p = [] by unfold readb; rw [HO.out, if_neg (by decide)]]; exact Own.nil _ _ _, HZ3.out, H3.out.refAt' HS.out.1 HS.out.2.1 HS.out.2.2.1 HG3.out.size, HG3.out⟩
  | some x =>
    have HO := Lib.hid (show opens z d p [] = 0 by unfold opens; rw [HN.out, if_pos rfl, HFS.out]; unfold rfils; rw [get_mapv, hx]; rfl)
    have HGX := Lib.hid (show get p d.fs = some x.f by rw [HFS.out]; unfold rfils; rw [get_mapv, hx]; rfl)
    obtain ⟨hpl, hpe⟩ := there_at H3.out.up hx
    have HX := Lib.hid (And.intro hx hpe)
    clear hx
    obtain ⟨g, cap, hlv, hcap, -, d1, -, -⟩ := H3.out.entry hpl
    subst hlv
    have c0 := H3.out.row.cell (i := 0) (v := .slice (some ⟨g, 0, none⟩) es.length cap) rfl
    rw [hpe] at d1
    have hfile := H3.out.file _ (get_mem HX.out.1)
    obtain ⟨xa, xc, hv⟩ := Own.slice' hfile
    rw [bvs_len] at hv
    have hv : x.v = .slice xa x.f.b.length xc := hv
    have hbl : x.f.b.length ≤ 1000000 := by
      have := tot_mem (l := d.fs) (e := (p, x.f)) (get_mem HGX.out)
      have h2 : x.f.b.length ≤ tot d.fs := this
      omega
    have hsrc := hfile.cells
    rw [show (p, x).2.v = x.v from rfl] at d1 hsrc
    rw [hv] at d1 hsrc
    have HSRC := Lib.hid (And.intro (Cells.src (P := Try.prog) Try.underlying30 hsrc (bvs_one _)) hbl)
    have hpi : ((pos p es : Nat) : Int) < (es.length : Int) := by omega
    obtain ⟨q, hq⟩ : ∃ q, pos p es = q := ⟨_, rfl⟩
    rw [hq] at d1 hpi ⊢
    clear hpe hfile hv hsrc hbl
    go_wp2_with (at_builtin; refine list_of_wp rfl fun K hK => wp_appx (B := w3.heap.size) _ _ 30 30 5 (.int .u8 0) 1 rfl Try.underlying30 info_b1 rfl rfl (Own.nil _ _ _) rfl HSRC.out.1 (by have := HSRC.out.2; rw [bvs_len]; simp [maxLen]; omega) (by have := HSRC.out.2; rw [bvs_len]; simp; omega) (Nat.le_refl _) x.f.b.length (by rw [bvs_len]; simp) fun ad c4 w4 ha => hK _ _ ?_)
    have hx4 : Ext w3 w4 := Ext.grown ha.2.1 (fun k hk => by cases hk)
    have HU := Lib.hid (show Own w4 w.heap.size 5 (.slice ad x.f.b.length c4) (bvs (readb z d p)) by
      rw [show readb z d p = x.f.b by unfold readb; rw [HO.out, if_pos rfl, HGX.out]]
      exact (ha.1).mono HG3.out.size)
    have H4 := Lib.hid (H3.out.ext hx4)
    have HZ4 := Lib.hid (HZ3.out.chg (Chg.of_ext hx4 (fun _ => False)) (fun _ _ h => h))
    have HG4 := Lib.hid (HG3.out.trans (Chg.of_ext hx4 _))
    clear ha hx4
    go_wp2_with fail
    go_ret2
    exact ⟨_, by rw [HO.out]; rfl, HU.out, HZ4.out, H4.out.refAt' HS.out.1 HS.out.2.1 HS.out.2.2.1 HG4.out.size, HG4.out⟩
theorem rcells_mark : ∀ (es : L REnt) (i : Nat) (h : i < es.length) {p : Path} {x : REnt}, es[i] = (p, x) → ∀ b : Bool, (rcells es).set (i * 3 + 2) (.bool b) = rcells (es.set i (p, ⟨x.v, ⟨x.f.b, b⟩⟩))
  | [], _, h, _, _, _, _ => absurd h (Nat.not_lt_zero _)
  | e :: es, 0, _, p, x, he, b => by
    simp only [List.getElem_cons_zero] at he
    subst he
    rfl
  | e :: es, i + 1, h, p, x, he, b => by
    have := rcells_mark es i (by simpa using h) (p := p) (x := x) (by simpa using he) b
    rw [List.set_cons_succ, rcells_cons, rcells_cons, ← this, show (i + 1) * 3 + 2 = (i * 3 + 2) + 1 + 1 + 1 by omega]
    rfl
/-- One of the files' cells written: its mark. -/
theorem RRaw.mark {w : World} {r : Nat} {rf : Option Nat} {es : L REnt} {d : DS} {g cap : Nat} (h : RRaw w r rf (.slice (some ⟨g, 0, none⟩) es.length cap) es d) {p : Path} {x : REnt} (hx : get p es = some x) {x' : REnt} (hne : x'.v.ownBlock ≠ some g)
    {w' : World} (hc : Chg (fun b => b = g) w w') (hl : OwnK w' 0 103 3 (.slice (some ⟨g, 0, none⟩) es.length cap) es.length (rcells (put p x' es))) (hb' : Own w' 0 5 x'.v (bvs x'.f.b)) : RRaw w' r rf (.slice (some ⟨g, 0, none⟩) es.length cap) (put p x' es) { d with fs := put p x'.f d.fs } := by
  have hg := h.self.1
  have hlen : (put p x' es).length = es.length := by rw [put_length h.up, hx]; rfl
  have hgr : ¬ r = g := fun e => hg (by rw [e]; rfl)
  refine ⟨h.row.chg hc hgr, by rw [hlen]; exact hl, put_up h.up, fun e he => ?_, ?_, h.nb, h.nm, fun e he => ?_⟩
  · rcases mem_put.1 he with rfl | ⟨he, -⟩
    · exact hb'
    · refine (h.file e he).chg hc fun b hb e1 => ?_
      subst e1
      obtain ⟨cur, hr⟩ := h.lst.row (b := b) rfl
      exact (h.file e he).ne hr (fun e => rty4 e.symm) hb
  · show put p x'.f d.fs = rfils (put p x' es)
    rw [h.fs]
    exact put_mapv (fun y : REnt => y.f) p x' es
  · rcases mem_put.1 he with rfl | ⟨he, -⟩
    · exact h.pl (p, x) (get_mem hx)
    · exact h.pl e he
theorem rsync_any (r : Nat) (rf : Option Nat) (z : Option FS) (d : DS) (S : Nat → Prop) (p : Path) (w : World) (h : RefAt w r rf d S) (hz : RzAt w rf z) (hzo : zops z < 1099511627776) (hp : p.length ≤ maxLen) (hn : d.fs.length ≤ 4096) :
    Calls Try.prog 47 #[.pointer (some ⟨r, 0, none⟩), .string (bstr p)] w (RefOut r rf S w (syncs z d p)) := by
  obtain ⟨lv, es, h, hS1, hS2, hS3⟩ := h
  have x0 : Ext w (w.alloc (.cells #[.string (bstr p)] 9)) := (Ext.refl w).alloc (Nat.le_refl _) _
  have hst := Strs.one w p
  obtain ⟨w1, hw1⟩ : ∃ w1, w.alloc (.cells #[.string (bstr p)] 9) = w1 := ⟨_, rfl⟩
  have HW1 := Lib.hid hw1
  rw [hw1] at x0 hst
  have H := Lib.hid (And.intro (h.ext x0) (And.intro (hz.chg (Chg.of_ext x0 (fun _ => False)) (fun _ _ h => h)) (And.intro hst x0)))
  have HS := Lib.hid (And.intro hS1 (And.intro hS2 (And.intro hS3 (fun b hb => hz.lt b hb))))
  have hlen : es.length ≤ 4096 := by have h1 := h.fs; rw [h1] at hn; simpa [rfils, mapv_length] using hn
  have HP := Lib.hid hp
  clear h hz hS1 hS2 hS3 hst hw1 x0 hp
  go_enter Try.func47, Try.ntmps47
  go_wp2_with fail
  rw [HW1.out]
  refine (ask_any r rf z lv es d [p] _ _ H.out.1 H.out.2.1 hzo (by simp) (by simpa using HP.out) H.out.2.2.1).mono ?_; rintro e w2 ⟨rfl, hz2, h2, hg2, hsz2⟩
  have HG2 := Lib.hid ((Chg.of_ext H.out.2.2.2 (fun b => S b ∨ rf = some b)).trans (hg2.mono (T := fun b => S b ∨ rf = some b) fun b _ hb => by
    rcases hb with rfl | hb
    · exact .inl (HS.out.1 _ (.inl rfl))
    · exact .inr hb))
  have HGR := Lib.hid ((Chg.of_ext H.out.2.2.2 (fun b => b = r ∨ rf = some b)).trans hg2)
  have HZ2 := Lib.hid hz2
  have H2 := Lib.hid h2
  have HFS := Lib.hid (H.out.1.fs)
  clear hz2 h2 hg2 hsz2 HW1
  obtain ⟨n, hnn⟩ : ∃ n, (begins z d [p]).1 = n := ⟨_, rfl⟩
  rw [hnn]
  have HN := Lib.hid hnn
  clear hnn
  by_cases h0 : n = 0
  case neg =>
    have q1 : ((n : Int) != 0) = true := by simp; omega
    have HO := Lib.hid (show opens z d p [] = n by unfold opens; rw [HN.out, if_neg h0])
    have HNZ := Lib.hid h0
    clear h0
    go_wp2_with fail
    go_ret
    have HR := Lib.hid (show syncs z d p = (n, (begins z d [p]).2) by unfold syncs; rw [HO.out, if_neg HNZ.out])
    unfold RefOut
    rw [HR.out]
    exact ⟨rfl, HZ2.out, H2.out.refAt (fun b hb => .inl (HS.out.1 b hb)) HS.out.2.1 HS.out.2.2.1 HS.out.2.2.2 HG2.out.size, HG2.out⟩
  subst h0
  have q1 : (((0 : Nat) : Int) != 0) = false := rfl
  have hokp : okP p = true := by
    have h1 := HN.out
    unfold begins at h1
    by_cases c1 : (ticks z).1 = false
    · rw [if_pos c1] at h1; cases h1
    · rw [if_neg c1] at h1
      by_cases c2 : d.off = true
      · rw [if_pos c2] at h1; cases h1
      · rw [if_neg c2] at h1
        by_cases c3 : 0 < d.bad
        · rw [if_pos c3] at h1; cases h1
        · rw [if_neg c3] at h1
          by_cases c4 : [p].all okP = true
          · simpa using c4
          · rw [if_neg c4] at h1; cases h1
  have HOK := Lib.hid hokp
  clear hokp
  go_wp2_with fail
  refine (at_any r rf lv es _ p _ H2.out (by omega) (Nat.le_trans (by have := HOK.out; unfold okP at this; exact (of_decide_eq_true this).2) (by decide))).mono ?_; rintro e w3 ⟨rfl, x3⟩
  have H3 := Lib.hid (H2.out.ext x3)
  have HZ3 := Lib.hid (HZ2.out.chg (Chg.of_ext x3 (fun _ => False)) (fun _ _ h => h))
  have HG3 := Lib.hid (HG2.out.trans (Chg.of_ext x3 _))
  clear x3 H2 HZ2 HG2
  cases hx : get p es with
  | none =>
    have HO := Lib.hid (show opens z d p [] = 6 by unfold opens; rw [HN.out, if_pos rfl, HFS.out]; unfold rfils; rw [get_mapv, hx]; rfl)
    go_wp2_with fail
    go_ret
    have HR := Lib.hid (show syncs z d p = (6, (begins z d [p]).2) by unfold syncs; rw [HO.out, if_neg (by decide)])
    unfold RefOut
    rw [HR.out]
    exact ⟨rfl, HZ3.out, H3.out.refAt (fun b hb => .inl (HS.out.1 b hb)) HS.out.2.1 HS.out.2.2.1 HS.out.2.2.2 HG3.out.size, HG3.out⟩
  | some x =>
    have HO := Lib.hid (show opens z d p [] = 0 by unfold opens; rw [HN.out, if_pos rfl, HFS.out]; unfold rfils; rw [get_mapv, hx]; rfl)
    have HGX := Lib.hid (show get p d.fs = some x.f by rw [HFS.out]; unfold rfils; rw [get_mapv, hx]; rfl)
    obtain ⟨hpl, hpe⟩ := there_at H3.out.up hx
    have HX := Lib.hid (And.intro hx hpe)
    clear hx
    obtain ⟨g, cap, hlv, hcap, -, -, d2, du⟩ := H3.out.entry hpl
    subst hlv
    have c0 := H3.out.row.cell (i := 0) (v := .slice (some ⟨g, 0, none⟩) es.length cap) rfl
    have u2 := du (pos p es * 3 + 2)
    have hgS : S g := HS.out.1 g (.inr (.inl rfl))
    have hcs : (rcells es).set (pos p es * 3 + 2) (.bool true) = rcells (put p ⟨x.v, ⟨x.f.b, true⟩⟩ es) := by
      rw [put_there H3.out.up HX.out.1]
      exact rcells_mark es _ hpl (by rw [hpe]) true
    have hset := H3.out.lst.set (pos p es * 3 + 2) (.bool true)
    rw [hcs] at hset
    have hcg : Chg (fun b => b = g) w3 (w3.setCell ⟨g, pos p es * 3 + 2, none⟩ (.bool true)) := (Chg.refl (fun b => b = g) w3).at g _ (.inl rfl) _
    have hfile := H3.out.file _ (get_mem HX.out.1)
    have hne : x.v.ownBlock ≠ some g := fun e => by
      obtain ⟨cur, hr⟩ := H3.out.lst.row (b := g) rfl
      exact hfile.ne hr (fun e => rty4 e.symm) e
    have H4 := Lib.hid (H3.out.mark (x' := ⟨x.v, ⟨x.f.b, true⟩⟩) HX.out.1 hne hcg hset (hfile.chg hcg fun b hb e => hne (by rw [hb, e])))
    have HZ4 := Lib.hid (HZ3.out.chg hcg fun b hb e => HS.out.2.2.1 b hb (by rw [e]; exact hgS))
    have HG4 := Lib.hid (HG3.out.trans (hcg.mono fun b _ hb => by subst hb; exact .inl hgS))
    have HR := Lib.hid (show syncs z d p = (0, (begins z d [p]).2.1, { (begins z d [p]).2.2 with fs := put p ⟨x.f.b, true⟩ d.fs }) by unfold syncs; rw [HO.out, if_pos rfl, HGX.out])
    have HF := Lib.hid (show ∀ b, RFoot r (.slice (some ⟨g, 0, none⟩) es.length cap) (put p ⟨x.v, ⟨x.f.b, true⟩⟩ es) b → S b from fun b hb => by
      rcases hb with hb | hb | ⟨e, he, hb⟩
      · exact HS.out.1 b (.inl hb)
      · exact HS.out.1 b (.inr (.inl hb))
      · rcases mem_put.1 he with rfl | ⟨he, -⟩
        · exact HS.out.1 b (.inr (.inr ⟨_, get_mem HX.out.1, hb⟩))
        · exact HS.out.1 b (.inr (.inr ⟨e, he, hb⟩)))
    have hpi : ((pos p es : Nat) : Int) < (es.length : Int) := by omega
    obtain ⟨q, hq⟩ : ∃ q, pos p es = q := ⟨_, rfl⟩
    obtain ⟨sv, hsv⟩ : ∃ sv, es[pos p es].2.f.sure = sv := ⟨_, rfl⟩
    rw [hsv] at d2
    clear hsv
    rw [hq] at d2 hpi u2 H4 HZ4 HG4 ⊢
    clear hpe hcs hset hcg hfile hne du
    go_wp2_with fail
    go_ret
    unfold RefOut
    rw [HR.out]
    have h4 := H4.out
    rw [begins_fs] at h4
    exact ⟨rfl, HZ4.out, h4.refAt (fun b hb => .inl (HF.out b hb)) HS.out.2.1 HS.out.2.2.1 HS.out.2.2.2 HG4.out.size, HG4.out⟩
theorem rdelete_any (r : Nat) (rf : Option Nat) (z : Option FS) (d : DS) (S : Nat → Prop) (p : Path) (w : World) (h : RefAt w r rf d S) (hz : RzAt w rf z) (hzo : zops z < 1099511627776) (hp : p.length ≤ maxLen) (hn : d.fs.length ≤ 4096) :
    Calls Try.prog 49 #[.pointer (some ⟨r, 0, none⟩), .string (bstr p)] w (RefOut r rf S w (deletes z d p)) := by
  obtain ⟨lv, es, h, hS1, hS2, hS3⟩ := h
  have x0 : Ext w (w.alloc (.cells #[.string (bstr p)] 9)) := (Ext.refl w).alloc (Nat.le_refl _) _
  have hst := Strs.one w p
  obtain ⟨w1, hw1⟩ : ∃ w1, w.alloc (.cells #[.string (bstr p)] 9) = w1 := ⟨_, rfl⟩
  have HW1 := Lib.hid hw1
  rw [hw1] at x0 hst
  have H := Lib.hid (And.intro (h.ext x0) (And.intro (hz.chg (Chg.of_ext x0 (fun _ => False)) (fun _ _ h => h)) (And.intro hst x0)))
  have HS := Lib.hid (And.intro hS1 (And.intro hS2 (And.intro hS3 (fun b hb => hz.lt b hb))))
  have hlen : es.length ≤ 4096 := by have h1 := h.fs; rw [h1] at hn; simpa [rfils, mapv_length] using hn
  have HP := Lib.hid hp
  clear h hz hS1 hS2 hS3 hst hw1 x0 hp
  go_enter Try.func49, Try.ntmps49
  go_wp2_with fail
  rw [HW1.out]
  refine (ask_any r rf z lv es d [p] _ _ H.out.1 H.out.2.1 hzo (by simp) (by simpa using HP.out) H.out.2.2.1).mono ?_; rintro e w2 ⟨rfl, hz2, h2, hg2, hsz2⟩
  have HG2 := Lib.hid ((Chg.of_ext H.out.2.2.2 (fun b => S b ∨ rf = some b)).trans (hg2.mono (T := fun b => S b ∨ rf = some b) fun b _ hb => by
    rcases hb with rfl | hb
    · exact .inl (HS.out.1 _ (.inl rfl))
    · exact .inr hb))
  have HGR := Lib.hid ((Chg.of_ext H.out.2.2.2 (fun b => b = r ∨ rf = some b)).trans hg2)
  have HZ2 := Lib.hid hz2
  have H2 := Lib.hid h2
  have HFS := Lib.hid (H.out.1.fs)
  clear hz2 h2 hg2 hsz2 HW1
  obtain ⟨n, hnn⟩ : ∃ n, (begins z d [p]).1 = n := ⟨_, rfl⟩
  rw [hnn]
  have HN := Lib.hid hnn
  clear hnn
  by_cases h0 : n = 0
  case neg =>
    have q1 : ((n : Int) != 0) = true := by simp; omega
    have HO := Lib.hid (show opens z d p [] = n by unfold opens; rw [HN.out, if_neg h0])
    have HNZ := Lib.hid h0
    clear h0
    go_wp2_with fail
    go_ret
    have HR := Lib.hid (show deletes z d p = (n, (begins z d [p]).2) by unfold deletes; rw [HO.out, if_neg HNZ.out])
    unfold RefOut
    rw [HR.out]
    exact ⟨rfl, HZ2.out, H2.out.refAt (fun b hb => .inl (HS.out.1 b hb)) HS.out.2.1 HS.out.2.2.1 HS.out.2.2.2 HG2.out.size, HG2.out⟩
  subst h0
  have q1 : (((0 : Nat) : Int) != 0) = false := rfl
  have hokp : okP p = true := by
    have h1 := HN.out
    unfold begins at h1
    by_cases c1 : (ticks z).1 = false
    · rw [if_pos c1] at h1; cases h1
    · rw [if_neg c1] at h1
      by_cases c2 : d.off = true
      · rw [if_pos c2] at h1; cases h1
      · rw [if_neg c2] at h1
        by_cases c3 : 0 < d.bad
        · rw [if_pos c3] at h1; cases h1
        · rw [if_neg c3] at h1
          by_cases c4 : [p].all okP = true
          · simpa using c4
          · rw [if_neg c4] at h1; cases h1
  have HOK := Lib.hid hokp
  clear hokp
  go_wp2_with fail
  refine (at_any r rf lv es _ p _ H2.out (by omega) (Nat.le_trans (by have := HOK.out; unfold okP at this; exact (of_decide_eq_true this).2) (by decide))).mono ?_; rintro e w3 ⟨rfl, x3⟩
  have H3 := Lib.hid (H2.out.ext x3)
  have HZ3 := Lib.hid (HZ2.out.chg (Chg.of_ext x3 (fun _ => False)) (fun _ _ h => h))
  have HG3 := Lib.hid (HG2.out.trans (Chg.of_ext x3 _))
  clear x3 H2 HZ2 HG2
  cases hx : get p es with
  | none =>
    have HO := Lib.hid (show opens z d p [] = 6 by unfold opens; rw [HN.out, if_pos rfl, HFS.out]; unfold rfils; rw [get_mapv, hx]; rfl)
    go_wp2_with fail
    go_ret
    have HR := Lib.hid (show deletes z d p = (6, (begins z d [p]).2) by unfold deletes; rw [HO.out, if_neg (by decide)])
    unfold RefOut
    rw [HR.out]
    exact ⟨rfl, HZ3.out, H3.out.refAt (fun b hb => .inl (HS.out.1 b hb)) HS.out.2.1 HS.out.2.2.1 HS.out.2.2.2 HG3.out.size, HG3.out⟩
  | some x =>
    have HO := Lib.hid (show opens z d p [] = 0 by unfold opens; rw [HN.out, if_pos rfl, HFS.out]; unfold rfils; rw [get_mapv, hx]; rfl)
    have HGX := Lib.hid (show get p d.fs = some x.f by rw [HFS.out]; unfold rfils; rw [get_mapv, hx]; rfl)
    obtain ⟨hpl, hpe⟩ := there_at H3.out.up hx
    have HX := Lib.hid (And.intro hx hpe)
    clear hx
    have hdel : es.take (pos p es) ++ es.drop (pos p es + 1) = del p es := by
      rw [(placed p H3.out.up).2.2]
      unfold Dk.one
      rw [HX.out.1]; rfl
    have HR := Lib.hid (show deletes z d p = (0, (begins z d [p]).2.1, { (begins z d [p]).2.2 with fs := del p d.fs }) by unfold deletes; rw [HO.out, if_pos rfl])
    have HD := Lib.hid (And.intro hdel (show rfils (del p es) = del p d.fs by rw [HFS.out]; exact (del_mapv _ _ _).symm))
    clear hpe hdel
    go_wp2_with fail
    refine (remove_any r rf lv es _ _ _ H3.out hpl (by omega)).mono ?_; rintro e w4 ⟨rfl, ⟨lv', h4, hf4⟩, hg4⟩
    rw [HD.out.1, HD.out.2] at h4
    have HZ4 := Lib.hid (HZ3.out.chg hg4 fun b hb e => HS.out.2.2.1 b hb (by rw [e]; exact HS.out.1 r (.inl rfl)))
    have HG4 := Lib.hid (HG3.out.trans (hg4.mono fun b _ hb => by rw [hb]; exact .inl (HS.out.1 r (.inl rfl))))
    have H4 := Lib.hid (h4.refAt (w := w) (S := S) (fun b hb => by
      rcases hb with hb | hb | ⟨e, he, hb⟩
      · exact .inl (HS.out.1 b (.inl hb))
      · exact .inr ⟨Nat.le_trans HG3.out.size (hf4 b hb), h4.lst.lt hb⟩
      · exact .inl (HS.out.1 b (.inr (.inr ⟨e, (mem_del.1 he).1, hb⟩)))) HS.out.2.1 HS.out.2.2.1 HS.out.2.2.2 HG4.out.size)
    clear h4 hf4 hg4
    go_wp2_with fail
    go_ret
    unfold RefOut
    rw [HR.out]
    exact ⟨rfl, HZ4.out, H4.out, HG4.out⟩
end Go.Proofs.Ytnphkddhckcpmaa
