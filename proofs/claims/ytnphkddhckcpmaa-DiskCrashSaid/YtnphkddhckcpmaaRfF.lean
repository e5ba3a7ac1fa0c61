/-
  The reference's disk: Rename.
-/
import Derived.Test.YtnphkddhckcpmaaRfE
namespace Go.Proofs.Ytnphkddhckcpmaa
open Go.RowKit Dk
set_option maxRecDepth 100000
set_option maxHeartbeats 4000000
attribute [local go_sem] min_int2 max_int2 bstr_toList bstr_size

theorem begins_nb (z : Option FS) (d : DS) (ps : List Path) : (begins z d ps).2.2.bad ≤ d.bad := by
  unfold begins
  repeat (first | exact Nat.le_refl _ | (show d.bad - 1 ≤ d.bad; omega) | split)
theorem rrename_any (r : Nat) (rf : Option Nat) (z : Option FS) (d : DS) (S : Nat → Prop) (a p : Path) (w : World) (h : RefAt w r rf d S) (hz : RzAt w rf z) (hzo : zops z < 1099511627776) (ha : a.length ≤ maxLen) (hp : p.length ≤ maxLen) (hn : d.fs.length ≤ 4096) :
    Calls Try.prog 48 #[.pointer (some ⟨r, 0, none⟩), .string (bstr a), .string (bstr p)] w (RefOut r rf S w (renames z d a p)) := by
  obtain ⟨lv, es, h, hS1, hS2, hS3⟩ := h
  have x0 : Ext w (w.alloc (.cells #[.string (bstr a), .string (bstr p)] 9)) := (Ext.refl w).alloc (Nat.le_refl _) _
  have hst : Strs (w.alloc (.cells #[.string (bstr a), .string (bstr p)] 9)) (.slice (some ⟨w.heap.size, 0, none⟩) 2 2) [a, p] := Own.new w 0 9 #[.string (bstr a), .string (bstr p)] (Nat.zero_le _) (by unfold maxLen; simp)
  obtain ⟨w1, hw1⟩ : ∃ w1, w.alloc (.cells #[.string (bstr a), .string (bstr p)] 9) = w1 := ⟨_, rfl⟩
  have HW1 := Lib.hid hw1
  rw [hw1] at x0 hst
  have H := Lib.hid (And.intro (h.ext x0) (And.intro (hz.chg (Chg.of_ext x0 (fun _ => False)) (fun _ _ h => h)) (And.intro hst x0)))
  have HS := Lib.hid (And.intro hS1 (And.intro hS2 (And.intro hS3 (fun b hb => hz.lt b hb))))
  have hlen : es.length ≤ 4096 := by have h1 := h.fs; rw [h1] at hn; simpa [rfils, mapv_length] using hn
  have HP := Lib.hid (show ∀ x ∈ [a, p], x.length ≤ maxLen by simp; exact ⟨ha, hp⟩)
  clear h hz hS1 hS2 hS3 hst hw1 x0 hp ha
  go_enter Try.func48, Try.ntmps48
  go_wp2_with fail
  rw [HW1.out]
  refine (ask_any r rf z lv es d [a, p] _ _ H.out.1 H.out.2.1 hzo (by simp) HP.out H.out.2.2.1).mono ?_; rintro e w2 ⟨rfl, hz2, h2, hg2, hsz2⟩
  have HG2 := Lib.hid ((Chg.of_ext H.out.2.2.2 (fun b => S b ∨ rf = some b)).trans (hg2.mono (T := fun b => S b ∨ rf = some b) fun b _ hb => by
    rcases hb with rfl | hb
    · exact .inl (HS.out.1 _ (.inl rfl))
    · exact .inr hb))
  have HGR := Lib.hid ((Chg.of_ext H.out.2.2.2 (fun b => b = r ∨ rf = some b)).trans hg2)
  have HZ2 := Lib.hid hz2
  have H2 := Lib.hid h2
  have HFS := Lib.hid (H.out.1.fs)
  clear hz2 h2 hg2 hsz2 HW1
  obtain ⟨n, hnn⟩ : ∃ n, (begins z d [a, p]).1 = n := ⟨_, rfl⟩
  rw [hnn]
  have HN := Lib.hid hnn
  clear hnn
  by_cases h0 : n = 0
  case neg =>
    have q1 : ((n : Int) != 0) = true := by simp; omega
    have HO := Lib.hid (show opens z d a [p] = n by unfold opens; rw [HN.out, if_neg h0])
    have HNZ := Lib.hid h0
    clear h0
    go_wp2_with fail
    go_ret
    have HR := Lib.hid (show renames z d a p = (n, (begins z d [a, p]).2) by unfold renames; rw [HO.out, if_neg HNZ.out])
    unfold RefOut
    rw [HR.out]
    exact ⟨rfl, HZ2.out, H2.out.refAt (fun b hb => .inl (HS.out.1 b hb)) HS.out.2.1 HS.out.2.2.1 HS.out.2.2.2 HG2.out.size, HG2.out⟩
  subst h0
  have q1 : (((0 : Nat) : Int) != 0) = false := rfl
  have hokp : okP a = true ∧ okP p = true := by
    have h1 := HN.out
    unfold begins at h1
    by_cases c1 : (ticks z).1 = false
    · rw [if_pos c1] at h1; cases h1
    · rw [if_neg c1] at h1
      by_cases c2 : d.off = true
      · rw [if_pos c2] at h1; cases h1
      · rw [if_neg c2] at h1
        by_cases c3 : 0 < d.bad
        · rw [if_pos c3] at h1; cases h1
        · rw [if_neg c3] at h1
          by_cases c4 : [a, p].all okP = true
          · simpa using c4
          · rw [if_neg c4] at h1; cases h1
  have HOK := Lib.hid hokp
  clear hokp
  go_wp2_with fail
  refine (at_any r rf lv es _ a _ H2.out (by omega) (Nat.le_trans (by have := HOK.out.1; unfold okP at this; exact (of_decide_eq_true this).2) (by decide))).mono ?_; rintro e w3 ⟨rfl, x3⟩
  have H3 := Lib.hid (H2.out.ext x3)
  have HZ3 := Lib.hid (HZ2.out.chg (Chg.of_ext x3 (fun _ => False)) (fun _ _ h => h))
  have HG3 := Lib.hid (HG2.out.trans (Chg.of_ext x3 _))
  clear x3 H2 HZ2 HG2
  cases hx : get a es with
  | none =>
    have HO := Lib.hid (show opens z d a [p] = 6 by unfold opens; rw [HN.out, if_pos rfl, HFS.out]; unfold rfils; rw [get_mapv, hx]; rfl)
    have HR := Lib.hid (show renames z d a p = (6, (begins z d [a, p]).2) by unfold renames; rw [HO.out, if_neg (by decide)])
    go_wp2_with fail
    go_ret
    unfold RefOut
    rw [HR.out]
    exact ⟨rfl, HZ3.out, H3.out.refAt (fun b hb => .inl (HS.out.1 b hb)) HS.out.2.1 HS.out.2.2.1 HS.out.2.2.2 HG3.out.size, HG3.out⟩
  | some x =>
    have HO := Lib.hid (show opens z d a [p] = 0 by unfold opens; rw [HN.out, if_pos rfl, HFS.out]; unfold rfils; rw [get_mapv, hx]; rfl)
    have HGX := Lib.hid (show get a d.fs = some x.f by rw [HFS.out]; unfold rfils; rw [get_mapv, hx]; rfl)
    obtain ⟨hpl, hpe⟩ := there_at H3.out.up hx
    have HX := Lib.hid (And.intro hx hpe)
    clear hx
    by_cases hap : a = p
    · have q2 : (a == p) = true := by simpa using hap
      have HR := Lib.hid (show renames z d a p = (0, (begins z d [a, p]).2) by unfold renames; rw [HO.out, if_pos rfl, if_pos hap])
      clear hpe hap
      go_wp2_with fail
      go_ret
      unfold RefOut
      rw [HR.out]
      exact ⟨rfl, HZ3.out, H3.out.refAt (fun b hb => .inl (HS.out.1 b hb)) HS.out.2.1 HS.out.2.2.1 HS.out.2.2.2 HG3.out.size, HG3.out⟩
    have q2 : (a == p) = false := by simpa using hap
    have HR := Lib.hid (show renames z d a p = (0, (begins z d [a, p]).2.1, { (begins z d [a, p]).2.2 with fs := put p x.f (del a d.fs) }) by
      unfold renames
      rw [HO.out, if_pos rfl, if_neg hap, HGX.out]
      simp only
      rw [put_del (by rw [HFS.out]; exact H3.out.up.mapv _) hap])
    have HAP := Lib.hid hap
    clear hap
    obtain ⟨g0, cap0, hlv, hcap0, d0, d1, d2, -⟩ := H3.out.entry hpl
    subst hlv
    have c0 := H3.out.row.cell (i := 0) (v := .slice (some ⟨g0, 0, none⟩) es.length cap0) rfl
    rw [hpe] at d0 d1 d2
    have hfile := H3.out.file _ (get_mem HX.out.1)
    obtain ⟨xa, xc, hv⟩ := Own.slice' hfile
    rw [bvs_len] at hv
    have hv : x.v = .slice xa x.f.b.length xc := hv
    obtain ⟨xl, hxl⟩ : ∃ xl, x.f.b.length = xl := ⟨_, rfl⟩
    rw [hxl] at hv
    obtain ⟨sv, hsv⟩ : ∃ sv, x.f.sure = sv := ⟨_, rfl⟩
    rw [show (a, x).2.v = x.v from rfl, hv] at d1
    rw [show (a, x).2.f.sure = x.f.sure from rfl, hsv] at d2
    rw [show (a, x).1 = a from rfl] at d0
    have HFV := Lib.hid (show x.v = .slice xa xl xc ∧ x.f.sure = sv from ⟨hv, hsv⟩)
    have HPL0 := Lib.hid hpl
    have hpi0 : ((pos a es : Nat) : Int) < (es.length : Int) := by omega
    obtain ⟨i0, hi0⟩ : ∃ q, pos a es = q := ⟨_, rfl⟩
    rw [hi0] at d0 d1 d2 hpi0 ⊢
    have hr4 := Row.new w3 103 #[.string (bstr p), .slice xa xl xc, .bool sv]
    have hx4 : Ext w3 (w3.alloc (.cells #[.string (bstr p), .slice xa xl xc, .bool sv] 103)) := (Ext.refl w3).alloc (Nat.le_refl _) _
    obtain ⟨fb, hfb⟩ : ∃ fb, w3.heap.size = fb := ⟨_, rfl⟩
    rw [hfb] at hr4
    have HI0 := Lib.hid hi0
    have HFB := Lib.hid hfb
    obtain ⟨w4, hw4⟩ : ∃ w4, w3.alloc (.cells #[.string (bstr p), .slice xa xl xc, .bool sv] 103) = w4 := ⟨_, rfl⟩
    have HR4 := Lib.hid (show Row w4 fb 103 #[.string (bstr p), .slice xa xl xc, .bool sv] by rw [← hw4]; exact hr4)
    rw [hw4] at hx4
    have HW4 := Lib.hid hw4
    have H4 := Lib.hid (H3.out.ext hx4)
    have HZ4 := Lib.hid (HZ3.out.chg (Chg.of_ext hx4 (fun _ => False)) (fun _ _ h => h))
    have HG4 := Lib.hid (HG3.out.trans (Chg.of_ext hx4 _))
    clear hpe hfile hv hsv hi0 hr4 hx4 hw4 hfb hxl
    go_wp2_with fail
    rw [HW4.out, HFB.out]
    have hdel : es.take i0 ++ es.drop (i0 + 1) = del a es := by
      rw [(placed a H4.out.up).2.2]
      unfold Dk.one
      rw [HX.out.1, HI0.out]; rfl
    refine (remove_any r rf _ es _ i0 _ H4.out (by have := HPL0.out; have := HI0.out; omega) (by omega)).mono ?_; rintro e w5 ⟨rfl, ⟨lv1, h5, hf5⟩, hg5⟩
    rw [hdel, show rfils (del a es) = del a d.fs by rw [HFS.out]; exact (del_mapv _ _ _).symm] at h5
    obtain ⟨es1, he1⟩ : ∃ es1, del a es = es1 := ⟨_, rfl⟩
    have HSUB := Lib.hid (show ∀ e ∈ es1, e ∈ es from fun e he => by rw [← he1] at he; exact (mem_del.1 he).1)
    have hxk := H4.out.file _ (get_mem HX.out.1)
    have HFS1 := Lib.hid (show del a d.fs = rfils es1 by rw [← he1, HFS.out]; exact del_mapv _ _ _)
    have hlen1 : es1.length ≤ 4096 := by rw [← he1]; have := List.length_filter_le (fun e : Path × REnt => !(e.1 == a)) es; exact Nat.le_trans this hlen
    rw [he1] at h5
    have hgr4 : ∀ k, k ≠ r → ¬ (fun b => b = r) k := fun k h => h
    have HXF5 := Lib.hid (show Own w5 0 5 x.v (bvs x.f.b) from hxk.chg hg5 fun k hk e => H4.out.self.2 _ (get_mem HX.out.1) (by rw [← e]; exact hk))
    have hfbr : ¬ fb = r := fun e => by have h1 := HR4.out; rw [e] at h1; exact H4.out.row.ne h1 rty2 rfl
    have HR5 := Lib.hid (HR4.out.chg hg5 hfbr)
    have HZ5 := Lib.hid (HZ4.out.chg hg5 fun k hk e => HS.out.2.2.1 k hk (by rw [e]; exact HS.out.1 r (.inl rfl)))
    have HG5 := Lib.hid (HG4.out.trans (hg5.mono fun k _ hk => by rw [hk]; exact .inl (HS.out.1 r (.inl rfl))))
    obtain ⟨d6, hd6⟩ : ∃ d6, ({ (begins z d [a, p]).2.2 with fs := del a d.fs } : DS) = d6 := ⟨_, rfl⟩
    rw [hd6] at h5
    have HD6 := Lib.hid hd6
    have H5 := Lib.hid h5
    have HF5 := Lib.hid (show ∀ b, lv1.ownBlock = some b → w.heap.size ≤ b from fun b hb => Nat.le_trans HG4.out.size (hf5 b hb))
    have HLF := Lib.hid (show lv1.ownBlock ≠ some fb from fun e => by
      have h1 := HR5.out.lt
      have h2 := hf5 fb e
      have h3 := HR4.out.lt
      omega)
    clear h5 hf5 hg5 hdel he1 hxk hd6 c0 d0 d1 d2 hpi0
    go_wp2_with fail
    refine (at_any r rf lv1 es1 _ p _ H5.out (by omega) (Nat.le_trans (by have := HOK.out.2; unfold okP at this; exact (of_decide_eq_true this).2) (by decide))).mono ?_; rintro e w6 ⟨rfl, x6⟩
    have H6 := Lib.hid (H5.out.ext x6)
    have HZ6 := Lib.hid (HZ5.out.chg (Chg.of_ext x6 (fun _ => False)) (fun _ _ h => h))
    have HG6 := Lib.hid (HG5.out.trans (Chg.of_ext x6 _))
    have hr6 := HR5.out.ext x6
    have f0 := hr6.cell (i := 0) (v := .string (bstr p)) rfl
    have f1 := hr6.cell (i := 1) (v := .slice xa xl xc) rfl
    have f2 := hr6.cell (i := 2) (v := .bool sv) rfl
    have hfl6 := hr6.lt
    have hrl := H6.out.row.lt
    have u0 := H6.out.row.unfrozen 0
    have HXF := Lib.hid (HXF5.out.ext x6)
    obtain ⟨fx, hfx⟩ : ∃ fx : REnt, fx = x := ⟨_, rfl⟩
    rw [← hfx] at HXF HFV HX HR HGX
    have HXS := Lib.hid (show ∀ k, fx.v.ownBlock = some k → S k from fun k hk => HS.out.1 k (.inr (.inr ⟨_, get_mem HX.out.1, hk⟩)))
    have HFX := Lib.hid (show fx.v.oneCell' = true by rw [HFV.out.1]; rfl)
    obtain ⟨la, lc, hlv⟩ := H6.out.lst.slice
    subst hlv
    obtain ⟨n, hnn⟩ : ∃ n, es1.length = n := ⟨_, rfl⟩
    have HNN := Lib.hid hnn
    have c0 : w6.cell? ⟨r, 0, none⟩ = some (.slice la n lc) := by rw [← hnn]; exact H6.out.row.cell (i := 0) rfl
    rw [hnn] at hlen1
    have hqle := pos_le p es1
    obtain ⟨i, hq⟩ : ∃ q, pos p es1 = q := ⟨_, rfl⟩
    have HQ := Lib.hid hq
    rw [hq, hnn] at hqle
    rw [hq]
    have HPP : Hid (∀ e ∈ put p fx es1, e.1.length ≤ 600) := Lib.hid fun e he => by
      rcases mem_put.1 he with rfl | ⟨he, -⟩
      · have := HOK.out.2; unfold okP at this; exact (of_decide_eq_true this).2
      · exact H6.out.pl e he
    have HFOOT : Hid (∀ k, (∃ e ∈ put p fx es1, e.2.v.ownBlock = some k) → S k) := Lib.hid fun k ⟨e, he, hk⟩ => by
      rcases mem_put.1 he with rfl | ⟨he, -⟩
      · exact HXS.out k hk
      · exact HS.out.1 k (.inr (.inr ⟨e, HSUB.out e he, hk⟩))
    clear hnn hq x6 hr6 hfx
    cases hx2 : get p es1 with
    | none =>
      have HX2 := Lib.hid hx2
      clear hx2
      have hput : es1.take i ++ (p, fx) :: es1.drop i = put p fx es1 := by
        rw [(placed p H6.out.up).2.1 fx]
        unfold Dk.one
        rw [HX2.out, HQ.out]; rfl
      have HPUT := Lib.hid hput
      have HUP := Lib.hid (show Up (es1.take i ++ (p, fx) :: es1.drop i) by rw [hput]; exact put_up H6.out.up)
      have HFI : Hid (∀ w', Chg (fun b => w6.heap.size ≤ b) w6 w' → ∀ e ∈ es1.take i ++ (p, fx) :: es1.drop i, Own w' 0 5 e.2.v (bvs e.2.f.b)) := Lib.hid fun w' hc e he => by
        rw [HPUT.out] at he
        rcases mem_put.1 he with rfl | ⟨he, -⟩
        · exact HXF.out.chg hc fun b hb hk => by have := HXF.out.lt hb; omega
        · exact (H6.out.file e he).chg hc fun b hb hk => by have := (H6.out.file e he).lt hb; omega
      have HPP : Hid (∀ e ∈ es1.take i ++ (p, fx) :: es1.drop i, e.1.length ≤ 600) := Lib.hid fun e he => by
        rw [HPUT.out] at he
        exact HPP.out e he
      clear hput
      have FINR : Hid (∀ w8, (∃ lv', RRaw w8 r rf lv' (es1.take i ++ (p, fx) :: es1.drop i) { d6 with fs := rfils (es1.take i ++ (p, fx) :: es1.drop i) } ∧ ∀ b, lv'.ownBlock = some b → w6.heap.size ≤ b) ∧ Chg (fun b => b = r) w6 w8 → RefOut r rf S w (renames z d a p) (.returned (.int .i64 0)) w8) := Lib.hid fun w8 ⟨⟨lv', h8, hfr⟩, hc8⟩ => by
        have hz8 := HZ6.out.chg hc8 fun b hb e => HS.out.2.2.1 b hb (by rw [e]; exact HS.out.1 r (.inl rfl))
        have hg8 := HG6.out.trans (hc8.mono fun b _ hb => by rw [hb]; exact .inl (HS.out.1 r (.inl rfl)))
        rw [HPUT.out, show rfils (put p fx es1) = put p fx.f (del a d.fs) by rw [HFS1.out]; exact (put_mapv (fun y : REnt => y.f) p fx es1).symm, ← HD6.out] at h8
        unfold RefOut
        rw [HR.out]
        refine ⟨rfl, hz8, h8.refAt (fun b hb => ?_) HS.out.2.1 HS.out.2.2.1 HS.out.2.2.2 hg8.size, hg8⟩
        rcases hb with hb | hb | hb
        · exact .inl (HS.out.1 b (.inl hb))
        · exact .inr ⟨Nat.le_trans HG6.out.size (hfr b hb), h8.lst.lt hb⟩
        · exact .inl (HFOOT.out b hb)
      go_wp2_with fail
      rcases H6.out.lst.forms.2 with ⟨hlv, hn0, -⟩ | ⟨g, cap, cur, hlv, -, -, hcap, -⟩
      · simp only [Value.slice.injEq] at hlv
        obtain ⟨rfl, -, rfl⟩ := hlv
        have hn1 : n = 0 := by rw [← HNN.out]; exact hn0
        subst hn1
        obtain rfl : i = 0 := by omega
        have SRC1 : Hid (∀ w', Chg (fun b => w6.heap.size ≤ b) w6 w' → Src Try.prog 3 91 (.slice none 0 0) 0 (rcells (es1.take 0)) w') := Lib.hid fun w' hc => H6.out.src1 0 (Nat.zero_le _) w' hc
        have SRC2 : Hid (∀ w', Chg (fun b => w6.heap.size ≤ b) w6 w' → Src Try.prog 3 91 (.slice none 0 0) (0 - 0) (rcells (es1.drop 0)) w') := Lib.hid fun w' hc => by
          have he : es1 = [] := List.eq_nil_of_length_eq_zero HNN.out
          rw [he]
          exact Src.ofNil w' Try.underlying91 0
        have NL1 : Hid ((rcells (es1.take 0)).length = 0 * 3) := Lib.hid (by rw [rcells_length, List.length_take, HNN.out]; rfl)
        have NL2 : Hid ((rcells (es1.drop 0)).length = (0 - 0) * 3) := Lib.hid (by rw [rcells_length, List.length_drop, HNN.out])
        have hS : (fun w' : World => w'.cell? ⟨r, 0, none⟩ = some (.slice none 0 0) ∧ w'.cell? ⟨fb, 0, none⟩ = some (.string (bstr p)) ∧ w'.cell? ⟨fb, 1, none⟩ = some (.slice xa xl xc) ∧ w'.cell? ⟨fb, 2, none⟩ = some (.bool sv)) w6.drew := ⟨c0, f0, f1, f2⟩
        refine wp_cut [58, 59, 60, 61, 62, 63, 64, 65, 66, 67, 68, 69, 70, 71, 72, 73, 74, 75, 76, 77] (fun w8 => (∃ lv', RRaw w8 r rf lv' (es1.take 0 ++ (p, fx) :: es1.drop 0) { d6 with fs := rfils (es1.take 0 ++ (p, fx) :: es1.drop 0) } ∧ ∀ b, lv'.ownBlock = some b → w6.heap.size ≤ b) ∧ Chg (fun b => b = r) w6 w8) ?_ ?_
        · refine wp_region_U (fun w' : World => w'.cell? ⟨r, 0, none⟩ = some (.slice none 0 0) ∧ w'.cell? ⟨fb, 0, none⟩ = some (.string (bstr p)) ∧ w'.cell? ⟨fb, 1, none⟩ = some (.slice xa xl xc) ∧ w'.cell? ⟨fb, 2, none⟩ = some (.bool sv)) 20 (by kernel_rfl) ?_
          refine wpU_pureH (i := 0) (j := 58) (v := ?_) rfl rfl (by kernel_rfl) (by kernel_rfl) (by kernel_rfl) (by decide) (fun _ _ _ h => h) (fun _ => hS) (Or.inl ⟨by kernel_rfl, fun _ _ => ?_⟩) ?_
          rotate_left
          · go_simp
            try with_reducible rfl
          refine wpU_pureH (i := 1) (j := 59) (v := ?_) rfl rfl (by kernel_rfl) (by kernel_rfl) (by kernel_rfl) (by decide) (fun _ _ _ h => h) (fun _ => hS) (Or.inl ⟨by kernel_rfl, fun _ _ => ?_⟩) ?_
          rotate_left
          · go_simp
            try with_reducible rfl
          refine wpU_pureH (i := 2) (j := 60) (v := ?_) rfl rfl (by kernel_rfl) (by kernel_rfl) (by kernel_rfl) (by decide) (fun _ _ _ h => h) (fun _ => hS) (Or.inl ⟨by kernel_rfl, fun _ _ => ?_⟩) ?_
          rotate_left
          · go_simp
            try with_reducible rfl
          refine wpU_pureH (i := 3) (j := 61) (v := ?_) rfl rfl (by kernel_rfl) (by kernel_rfl) (by kernel_rfl) (by decide) (fun _ _ _ h => h) (fun _ => hS) (Or.inl ⟨by kernel_rfl, fun _ _ => ?_⟩) ?_
          rotate_left
          · go_simp
            try with_reducible rfl
          refine wpU_loadH (i := 4) (j := 62) (v := ?_) rfl rfl (by kernel_rfl) (by kernel_rfl) (by kernel_rfl) (by decide) (by kernel_rfl) (by kernel_rfl) (fun _ _ _ h => h) hS (Or.inl ⟨by kernel_rfl, fun wl hl => ?_⟩) ?_
          rotate_left
          · obtain ⟨l0, l1, l2, l3⟩ := hl
            go_simp
            try with_reducible rfl
          refine wpU_pureH (i := 5) (j := 63) (v := ?_) rfl rfl (by kernel_rfl) (by kernel_rfl) (by kernel_rfl) (by decide) (fun _ _ _ h => h) (fun _ => hS) (Or.inl ⟨by kernel_rfl, fun _ _ => ?_⟩) ?_
          rotate_left
          · go_simp
            try with_reducible rfl
          refine wpU_pureH (i := 6) (j := 64) (v := ?_) rfl rfl (by kernel_rfl) (by kernel_rfl) (by kernel_rfl) (by decide) (fun _ _ _ h => h) (fun _ => hS) (Or.inl ⟨by kernel_rfl, fun _ _ => ?_⟩) ?_
          rotate_left
          · go_simp
            try with_reducible rfl
          refine wpU_loadH (i := 8) (j := 66) (v := ?_) rfl rfl (by kernel_rfl) (by kernel_rfl) (by kernel_rfl) (by decide) (by kernel_rfl) (by kernel_rfl) (fun _ _ _ h => h) hS (Or.inl ⟨by kernel_rfl, fun wl hl => ?_⟩) ?_
          rotate_left
          · obtain ⟨l0, l1, l2, l3⟩ := hl
            go_simp
            try with_reducible rfl
          refine wpU_pureH (i := 11) (j := 69) (v := ?_) rfl rfl (by kernel_rfl) (by kernel_rfl) (by kernel_rfl) (by decide) (fun _ _ _ h => h) (fun _ => hS) (Or.inl ⟨by kernel_rfl, fun _ _ => ?_⟩) ?_
          rotate_left
          · go_simp
            try with_reducible rfl
          refine wpU_pureH (i := 12) (j := 70) (v := ?_) rfl rfl (by kernel_rfl) (by kernel_rfl) (by kernel_rfl) (by decide) (fun _ _ _ h => h) (fun _ => hS) (Or.inl ⟨by kernel_rfl, fun _ _ => ?_⟩) ?_
          rotate_left
          · go_simp
            try with_reducible rfl
          refine wpU_pureH (i := 13) (j := 71) (v := ?_) rfl rfl (by kernel_rfl) (by kernel_rfl) (by kernel_rfl) (by decide) (fun _ _ _ h => h) (fun _ => hS) (Or.inl ⟨by kernel_rfl, fun _ _ => ?_⟩) ?_
          rotate_left
          · go_simp
            try with_reducible rfl
          refine wpU_loadH (i := 14) (j := 72) (v := ?_) rfl rfl (by kernel_rfl) (by kernel_rfl) (by kernel_rfl) (by decide) (by kernel_rfl) (by kernel_rfl) (fun _ _ _ h => h) hS (Or.inl ⟨by kernel_rfl, fun wl hl => ?_⟩) ?_
          rotate_left
          · obtain ⟨l0, l1, l2, l3⟩ := hl
            go_simp
            try with_reducible rfl
          refine wpU_pureH (i := 15) (j := 73) (v := ?_) rfl rfl (by kernel_rfl) (by kernel_rfl) (by kernel_rfl) (by decide) (fun _ _ _ h => h) (fun _ => hS) (Or.inl ⟨by kernel_rfl, fun _ _ => ?_⟩) ?_
          rotate_left
          · go_simp
            try with_reducible rfl
          refine wpU_pureH (i := 16) (j := 74) (v := ?_) rfl rfl (by kernel_rfl) (by kernel_rfl) (by kernel_rfl) (by decide) (fun _ _ _ h => h) (fun _ => hS) (Or.inl ⟨by kernel_rfl, fun _ _ => ?_⟩) ?_
          rotate_left
          · go_simp
            try with_reducible rfl
          refine wpU_all [7, 9] (by kernel_rfl) (by simp) ?_
          refine ReadyU.cons rfl (fun K hK => ?_) (ReadyU.cons rfl (fun K hK => ?_) ReadyU.nil)
          · have HB := Lib.hid (Chg.of_ext (Ext.of_drawn w6 1) (fun b => w6.heap.size ≤ b))
            refine step_of_wp rfl (wp_appk (B := w6.heap.size) _ _ 91 91 103 zrf 3 48 rfl Try.underlying91 info_rf rfl rfl (OwnK.nil _ _ _ _) (by go_simp) (SRC1.out _ HB.out) (by rw [NL1.out]) (by unfold maxLen; omega) (by omega) HB.out.size fun a1 k1 w7 ha => ?_)
            have hc7 := HB.out.trans ((Chg.refl (fun b => w6.heap.size ≤ b) _).grown ha.2.1 (fun k hk => by cases hk))
            have hS : (fun w' : World => w'.cell? ⟨r, 0, none⟩ = some (.slice none 0 0) ∧ w'.cell? ⟨fb, 0, none⟩ = some (.string (bstr p)) ∧ w'.cell? ⟨fb, 1, none⟩ = some (.slice xa xl xc) ∧ w'.cell? ⟨fb, 2, none⟩ = some (.bool sv)) w7 := ⟨hc7.cell c0 (show ¬ w6.heap.size ≤ r by omega), hc7.cell f0 (show ¬ w6.heap.size ≤ fb by omega), hc7.cell f1 (show ¬ w6.heap.size ≤ fb by omega), hc7.cell f2 (show ¬ w6.heap.size ≤ fb by omega)⟩
            refine hK.out _ _ (fun _ => hS) ?_
            refine wpU_putH (j := 65) rfl ?_
            clear hK K
            have HA1 := Lib.hid (And.intro ha.1 hc7)
            clear ha hc7
            refine wpU_all [9] (by kernel_rfl) (by simp) ?_
            refine ReadyU.cons rfl (fun K hK => ?_) ReadyU.nil
            have hc8 := HA1.out.2.alloc (.cells #[.string (bstr p), .slice xa xl xc, .bool sv] 103)
            have hS : (fun w' : World => w'.cell? ⟨r, 0, none⟩ = some (.slice none 0 0) ∧ w'.cell? ⟨fb, 0, none⟩ = some (.string (bstr p)) ∧ w'.cell? ⟨fb, 1, none⟩ = some (.slice xa xl xc) ∧ w'.cell? ⟨fb, 2, none⟩ = some (.bool sv)) (w7.alloc (.cells #[.string (bstr p), .slice xa xl xc, .bool sv] 103)) := ⟨hc8.cell c0 (show ¬ w6.heap.size ≤ r by omega), hc8.cell f0 (show ¬ w6.heap.size ≤ fb by omega), hc8.cell f1 (show ¬ w6.heap.size ≤ fb by omega), hc8.cell f2 (show ¬ w6.heap.size ≤ fb by omega)⟩
            have hq := one_src w7 p fx HFX.out _ (Chg.refl _ _)
            rw [HFV.out.1, HFV.out.2] at hq
            have HA := Lib.hid (And.intro (HA1.out.1.ext ((Ext.refl w7).alloc (Nat.le_refl _) (.cells #[.string (bstr p), .slice xa xl xc, .bool sv] 103))) (And.intro hq hc8))
            simp only [List.set_cons_zero, List.set_cons_succ]
            go_simp
            refine hK.out _ _ (fun _ => hS) ?_
            clear hK K hc8 hq
            refine wpU_all [10] (by kernel_rfl) (by simp) ?_
            refine ReadyU.cons rfl (fun K hK => ?_) ReadyU.nil
            refine step_of_wp rfl (wp_appk (B := w6.heap.size) _ _ 91 91 103 zrf 3 48 rfl Try.underlying91 info_rf rfl (by go_simp) HA.out.1 (by go_simp) HA.out.2.1 (by rfl) (by unfold maxLen; omega) (by omega) HA.out.2.2.size fun a2 k2 w9 ha => ?_)
            have hc9 : Chg (fun b => w6.heap.size ≤ b) w6 w9 := HA.out.2.2.trans ((Chg.refl (fun b => w6.heap.size ≤ b) _).grown ha.2.1 (fun k hk => .inl (HA.out.1.block k hk)))
            have hS : (fun w' : World => w'.cell? ⟨r, 0, none⟩ = some (.slice none 0 0) ∧ w'.cell? ⟨fb, 0, none⟩ = some (.string (bstr p)) ∧ w'.cell? ⟨fb, 1, none⟩ = some (.slice xa xl xc) ∧ w'.cell? ⟨fb, 2, none⟩ = some (.bool sv)) w9 := ⟨hc9.cell c0 (show ¬ w6.heap.size ≤ r by omega), hc9.cell f0 (show ¬ w6.heap.size ≤ fb by omega), hc9.cell f1 (show ¬ w6.heap.size ≤ fb by omega), hc9.cell f2 (show ¬ w6.heap.size ≤ fb by omega)⟩
            refine hK.out _ _ (fun _ => hS) ?_
            refine wpU_putH (j := 68) rfl ?_
            clear hK K
            have HA2 := Lib.hid (And.intro ha.1 hc9)
            clear ha hc9
            refine wpU_all [17] (by kernel_rfl) (by simp) ?_
            refine ReadyU.cons rfl (fun K hK => ?_) ReadyU.nil
            refine step_of_wp rfl (wp_appk (B := w6.heap.size) _ _ 91 91 103 zrf 3 48 rfl Try.underlying91 info_rf rfl (by go_simp) HA2.out.1 (by go_simp) (SRC2.out _ HA2.out.2) (by rw [NL2.out]) (by unfold maxLen; omega) (by omega) HA2.out.2.size fun a3 k3 wa ha => ?_)
            have hca : Chg (fun b => w6.heap.size ≤ b) w6 wa := HA2.out.2.trans ((Chg.refl (fun b => w6.heap.size ≤ b) _).grown ha.2.1 (fun k hk => .inl (HA2.out.1.block k hk)))
            have hS : (fun w' : World => w'.cell? ⟨r, 0, none⟩ = some (.slice none 0 0) ∧ w'.cell? ⟨fb, 0, none⟩ = some (.string (bstr p)) ∧ w'.cell? ⟨fb, 1, none⟩ = some (.slice xa xl xc) ∧ w'.cell? ⟨fb, 2, none⟩ = some (.bool sv)) wa := ⟨hca.cell c0 (show ¬ w6.heap.size ≤ r by omega), hca.cell f0 (show ¬ w6.heap.size ≤ fb by omega), hca.cell f1 (show ¬ w6.heap.size ≤ fb by omega), hca.cell f2 (show ¬ w6.heap.size ≤ fb by omega)⟩
            have ua := hca.unfrozen c0 u0 (show ¬ w6.heap.size ≤ r by omega)
            refine hK.out _ _ (fun _ => hS) ?_
            refine wpU_putH (j := 75) rfl ?_
            clear hK K
            have hll : (es1.take 0 ++ (p, fx) :: es1.drop 0).length = 0 + 0 + 1 + (0 - 0) := by  rw [List.length_append, List.length_cons, List.length_take, List.length_drop, HNN.out]; omega
            have ho := ha.1
            have ecs : (([] ++ rcells (List.take 0 es1)) ++ rc (p, fx)) ++ rcells (List.drop 0 es1) = rcells (es1.take 0 ++ (p, fx) :: es1.drop 0) := by  rw [List.nil_append, rcells_append, rcells_cons, List.append_assoc]
            rw [ecs, ← hll] at ho
            have FIN := H6.out.relist hca ho HUP.out (HFI.out _ hca) HPP.out
            rw [Nat.zero_add] at hll
            rw [hll] at FIN
            have FIN := Lib.hid FIN
            clear ha hca ho ecs hll
            refine wpU_pureH (i := 18) (j := 76) (v := ?_) rfl rfl (by kernel_rfl) (by kernel_rfl) (by kernel_rfl) (by decide) (fun _ _ _ h => h) (fun _ => hS) (Or.inl ⟨by kernel_rfl, fun _ _ => ?_⟩) ?_
            rotate_left
            · go_simp
              try with_reducible rfl
            refine wpU_pureH (i := 19) (j := 77) (v := ?_) rfl rfl (by kernel_rfl) (by kernel_rfl) (by kernel_rfl) (by decide) (fun _ _ _ h => h) (fun _ => hS) (Or.inl ⟨by kernel_rfl, fun _ _ => ?_⟩) ?_
            rotate_left
            · go_simp
              try with_reducible rfl
            refine wpU_all [20] (by kernel_rfl) (by simp) ?_
            refine ReadyU.cons rfl (fun K hK => ?_) ReadyU.nil
            simp only [List.set_cons_zero, List.set_cons_succ]
            go_simp
            refine hK.out _ _ (fun h => Bool.noConfusion (show true = false from h)) ?_
            clear hK K
            refine wpU_done (by kernel_rfl) ?_ _
            exact cut_end ⟨⟨_, FIN.out.1, FIN.out.2.1⟩, FIN.out.2.2⟩ (by kernel_rfl)
          · have hc8 := (Chg.of_ext (Ext.of_drawn w6 1) (fun b => w6.heap.size ≤ b)).alloc (.cells #[.string (bstr p), .slice xa xl xc, .bool sv] 103)
            have hS : (fun w' : World => w'.cell? ⟨r, 0, none⟩ = some (.slice none 0 0) ∧ w'.cell? ⟨fb, 0, none⟩ = some (.string (bstr p)) ∧ w'.cell? ⟨fb, 1, none⟩ = some (.slice xa xl xc) ∧ w'.cell? ⟨fb, 2, none⟩ = some (.bool sv)) (w6.drew.alloc (.cells #[.string (bstr p), .slice xa xl xc, .bool sv] 103)) := ⟨hc8.cell c0 (show ¬ w6.heap.size ≤ r by omega), hc8.cell f0 (show ¬ w6.heap.size ≤ fb by omega), hc8.cell f1 (show ¬ w6.heap.size ≤ fb by omega), hc8.cell f2 (show ¬ w6.heap.size ≤ fb by omega)⟩
            have hq := one_src w6.drew p fx HFX.out
            rw [HFV.out.1, HFV.out.2] at hq
            simp only [List.set_cons_zero, List.set_cons_succ]
            go_simp
            refine hK.out _ _ (fun _ => hS) ?_
            have HB := Lib.hid hc8
            have HQ := Lib.hid hq
            clear hK K hc8 hq
            refine wpU_all [7] (by kernel_rfl) (by simp) ?_
            refine ReadyU.cons rfl (fun K hK => ?_) ReadyU.nil
            refine step_of_wp rfl (wp_appk (B := w6.heap.size) _ _ 91 91 103 zrf 3 48 rfl Try.underlying91 info_rf rfl rfl (OwnK.nil _ _ _ _) (by go_simp) (SRC1.out _ HB.out) (by rw [NL1.out]) (by unfold maxLen; omega) (by omega) HB.out.size fun a1 k1 w7 ha => ?_)
            have hc7 := HB.out.trans ((Chg.refl (fun b => w6.heap.size ≤ b) _).grown ha.2.1 (fun k hk => by cases hk))
            have hS : (fun w' : World => w'.cell? ⟨r, 0, none⟩ = some (.slice none 0 0) ∧ w'.cell? ⟨fb, 0, none⟩ = some (.string (bstr p)) ∧ w'.cell? ⟨fb, 1, none⟩ = some (.slice xa xl xc) ∧ w'.cell? ⟨fb, 2, none⟩ = some (.bool sv)) w7 := ⟨hc7.cell c0 (show ¬ w6.heap.size ≤ r by omega), hc7.cell f0 (show ¬ w6.heap.size ≤ fb by omega), hc7.cell f1 (show ¬ w6.heap.size ≤ fb by omega), hc7.cell f2 (show ¬ w6.heap.size ≤ fb by omega)⟩
            refine hK.out _ _ (fun _ => hS) ?_
            refine wpU_putH (j := 65) rfl ?_
            clear hK K
            have HA := Lib.hid (And.intro ha.1 (And.intro (HQ.out w7 ((Chg.refl _ _).grown ha.2.1 (fun k hk => by cases hk))) hc7))
            clear ha hc7
            refine wpU_all [10] (by kernel_rfl) (by simp) ?_
            refine ReadyU.cons rfl (fun K hK => ?_) ReadyU.nil
            refine step_of_wp rfl (wp_appk (B := w6.heap.size) _ _ 91 91 103 zrf 3 48 rfl Try.underlying91 info_rf rfl (by go_simp) HA.out.1 (by go_simp) HA.out.2.1 (by rfl) (by unfold maxLen; omega) (by omega) HA.out.2.2.size fun a2 k2 w9 ha => ?_)
            have hc9 : Chg (fun b => w6.heap.size ≤ b) w6 w9 := HA.out.2.2.trans ((Chg.refl (fun b => w6.heap.size ≤ b) _).grown ha.2.1 (fun k hk => .inl (HA.out.1.block k hk)))
            have hS : (fun w' : World => w'.cell? ⟨r, 0, none⟩ = some (.slice none 0 0) ∧ w'.cell? ⟨fb, 0, none⟩ = some (.string (bstr p)) ∧ w'.cell? ⟨fb, 1, none⟩ = some (.slice xa xl xc) ∧ w'.cell? ⟨fb, 2, none⟩ = some (.bool sv)) w9 := ⟨hc9.cell c0 (show ¬ w6.heap.size ≤ r by omega), hc9.cell f0 (show ¬ w6.heap.size ≤ fb by omega), hc9.cell f1 (show ¬ w6.heap.size ≤ fb by omega), hc9.cell f2 (show ¬ w6.heap.size ≤ fb by omega)⟩
            refine hK.out _ _ (fun _ => hS) ?_
            refine wpU_putH (j := 68) rfl ?_
            clear hK K
            have HA2 := Lib.hid (And.intro ha.1 hc9)
            clear ha hc9
            refine wpU_all [17] (by kernel_rfl) (by simp) ?_
            refine ReadyU.cons rfl (fun K hK => ?_) ReadyU.nil
            refine step_of_wp rfl (wp_appk (B := w6.heap.size) _ _ 91 91 103 zrf 3 48 rfl Try.underlying91 info_rf rfl (by go_simp) HA2.out.1 (by go_simp) (SRC2.out _ HA2.out.2) (by rw [NL2.out]) (by unfold maxLen; omega) (by omega) HA2.out.2.size fun a3 k3 wa ha => ?_)
            have hca : Chg (fun b => w6.heap.size ≤ b) w6 wa := HA2.out.2.trans ((Chg.refl (fun b => w6.heap.size ≤ b) _).grown ha.2.1 (fun k hk => .inl (HA2.out.1.block k hk)))
            have hS : (fun w' : World => w'.cell? ⟨r, 0, none⟩ = some (.slice none 0 0) ∧ w'.cell? ⟨fb, 0, none⟩ = some (.string (bstr p)) ∧ w'.cell? ⟨fb, 1, none⟩ = some (.slice xa xl xc) ∧ w'.cell? ⟨fb, 2, none⟩ = some (.bool sv)) wa := ⟨hca.cell c0 (show ¬ w6.heap.size ≤ r by omega), hca.cell f0 (show ¬ w6.heap.size ≤ fb by omega), hca.cell f1 (show ¬ w6.heap.size ≤ fb by omega), hca.cell f2 (show ¬ w6.heap.size ≤ fb by omega)⟩
            have ua := hca.unfrozen c0 u0 (show ¬ w6.heap.size ≤ r by omega)
            refine hK.out _ _ (fun _ => hS) ?_
            refine wpU_putH (j := 75) rfl ?_
            clear hK K
            have hll : (es1.take 0 ++ (p, fx) :: es1.drop 0).length = 0 + 0 + 1 + (0 - 0) := by  rw [List.length_append, List.length_cons, List.length_take, List.length_drop, HNN.out]; omega
            have ho := ha.1
            have ecs : (([] ++ rcells (List.take 0 es1)) ++ rc (p, fx)) ++ rcells (List.drop 0 es1) = rcells (es1.take 0 ++ (p, fx) :: es1.drop 0) := by  rw [List.nil_append, rcells_append, rcells_cons, List.append_assoc]
            rw [ecs, ← hll] at ho
            have FIN := H6.out.relist hca ho HUP.out (HFI.out _ hca) HPP.out
            rw [Nat.zero_add] at hll
            rw [hll] at FIN
            have FIN := Lib.hid FIN
            clear ha hca ho ecs hll
            refine wpU_pureH (i := 18) (j := 76) (v := ?_) rfl rfl (by kernel_rfl) (by kernel_rfl) (by kernel_rfl) (by decide) (fun _ _ _ h => h) (fun _ => hS) (Or.inl ⟨by kernel_rfl, fun _ _ => ?_⟩) ?_
            rotate_left
            · go_simp
              try with_reducible rfl
            refine wpU_pureH (i := 19) (j := 77) (v := ?_) rfl rfl (by kernel_rfl) (by kernel_rfl) (by kernel_rfl) (by decide) (fun _ _ _ h => h) (fun _ => hS) (Or.inl ⟨by kernel_rfl, fun _ _ => ?_⟩) ?_
            rotate_left
            · go_simp
              try with_reducible rfl
            refine wpU_all [20] (by kernel_rfl) (by simp) ?_
            refine ReadyU.cons rfl (fun K hK => ?_) ReadyU.nil
            simp only [List.set_cons_zero, List.set_cons_succ]
            go_simp
            refine hK.out _ _ (fun h => Bool.noConfusion (show true = false from h)) ?_
            clear hK K
            refine wpU_done (by kernel_rfl) ?_ _
            exact cut_end ⟨⟨_, FIN.out.1, FIN.out.2.1⟩, FIN.out.2.2⟩ (by kernel_rfl)
        · intro us w8 h8
          have H8 := Lib.hid (FINR.out w8 h8)
          clear h8 hS c0 f0 f1 f2 u0
          simp only [setAll, List.foldl_cons, List.foldl_nil, List.set_cons_zero, List.set_cons_succ]
          go_wp2_with fail
          go_ret
          exact H8.out
      · simp only [Value.slice.injEq] at hlv
        obtain ⟨rfl, -, rfl⟩ := hlv
        rw [HNN.out] at hcap
        have SRC1 : Hid (∀ w', Chg (fun b => w6.heap.size ≤ b) w6 w' → Src Try.prog 3 91 (.slice (some ⟨g, 0, none⟩) i lc) i (rcells (es1.take i)) w') := Lib.hid fun w' hc => H6.out.src1 i (by rw [HNN.out]; exact hqle) w' hc
        obtain ⟨ad3, had⟩ : ∃ ad : Option Addr, (if lc = i then some ⟨g, 0, none⟩ else some ⟨g, i * 3, none⟩) = ad := ⟨_, rfl⟩
        have SRC2 : Hid (∀ w', Chg (fun b => w6.heap.size ≤ b) w6 w' → Src Try.prog 3 91 (.slice ad3 (n - i) (lc - i)) (n - i) (rcells (es1.drop i)) w') := Lib.hid fun w' hc => by
          have h1 := H6.out.src2 i (by rw [HNN.out]; exact hqle) (by rw [HNN.out]; exact hcap) w' hc
          rw [had, HNN.out] at h1
          exact h1
        have NL1 : Hid ((rcells (es1.take i)).length = i * 3) := Lib.hid (by rw [rcells_length, List.length_take, HNN.out]; congr 1; omega)
        have NL2 : Hid ((rcells (es1.drop i)).length = (n - i) * 3) := Lib.hid (by rw [rcells_length, List.length_drop, HNN.out])
        have hic : i ≤ lc := by omega
        have hi1 : (i : Int) ≤ (n : Int) := by omega
        have hi2 : (i : Int) ≤ (lc : Int) := by omega
        have hS : (fun w' : World => w'.cell? ⟨r, 0, none⟩ = some (.slice (some ⟨g, 0, none⟩) n lc) ∧ w'.cell? ⟨fb, 0, none⟩ = some (.string (bstr p)) ∧ w'.cell? ⟨fb, 1, none⟩ = some (.slice xa xl xc) ∧ w'.cell? ⟨fb, 2, none⟩ = some (.bool sv)) w6.drew := ⟨c0, f0, f1, f2⟩
        refine wp_cut [58, 59, 60, 61, 62, 63, 64, 65, 66, 67, 68, 69, 70, 71, 72, 73, 74, 75, 76, 77] (fun w8 => (∃ lv', RRaw w8 r rf lv' (es1.take i ++ (p, fx) :: es1.drop i) { d6 with fs := rfils (es1.take i ++ (p, fx) :: es1.drop i) } ∧ ∀ b, lv'.ownBlock = some b → w6.heap.size ≤ b) ∧ Chg (fun b => b = r) w6 w8) ?_ ?_
        · refine wp_region_U (fun w' : World => w'.cell? ⟨r, 0, none⟩ = some (.slice (some ⟨g, 0, none⟩) n lc) ∧ w'.cell? ⟨fb, 0, none⟩ = some (.string (bstr p)) ∧ w'.cell? ⟨fb, 1, none⟩ = some (.slice xa xl xc) ∧ w'.cell? ⟨fb, 2, none⟩ = some (.bool sv)) 20 (by kernel_rfl) ?_
          refine wpU_pureH (i := 0) (j := 58) (v := ?_) rfl rfl (by kernel_rfl) (by kernel_rfl) (by kernel_rfl) (by decide) (fun _ _ _ h => h) (fun _ => hS) (Or.inl ⟨by kernel_rfl, fun _ _ => ?_⟩) ?_
          rotate_left
          · go_simp
            try with_reducible rfl
          refine wpU_pureH (i := 1) (j := 59) (v := ?_) rfl rfl (by kernel_rfl) (by kernel_rfl) (by kernel_rfl) (by decide) (fun _ _ _ h => h) (fun _ => hS) (Or.inl ⟨by kernel_rfl, fun _ _ => ?_⟩) ?_
          rotate_left
          · go_simp
            try with_reducible rfl
          refine wpU_pureH (i := 2) (j := 60) (v := ?_) rfl rfl (by kernel_rfl) (by kernel_rfl) (by kernel_rfl) (by decide) (fun _ _ _ h => h) (fun _ => hS) (Or.inl ⟨by kernel_rfl, fun _ _ => ?_⟩) ?_
          rotate_left
          · go_simp
            try with_reducible rfl
          refine wpU_pureH (i := 3) (j := 61) (v := ?_) rfl rfl (by kernel_rfl) (by kernel_rfl) (by kernel_rfl) (by decide) (fun _ _ _ h => h) (fun _ => hS) (Or.inl ⟨by kernel_rfl, fun _ _ => ?_⟩) ?_
          rotate_left
          · go_simp
            try with_reducible rfl
          refine wpU_loadH (i := 4) (j := 62) (v := ?_) rfl rfl (by kernel_rfl) (by kernel_rfl) (by kernel_rfl) (by decide) (by kernel_rfl) (by kernel_rfl) (fun _ _ _ h => h) hS (Or.inl ⟨by kernel_rfl, fun wl hl => ?_⟩) ?_
          rotate_left
          · obtain ⟨l0, l1, l2, l3⟩ := hl
            go_simp
            try with_reducible rfl
          refine wpU_pureH (i := 5) (j := 63) (v := ?_) rfl rfl (by kernel_rfl) (by kernel_rfl) (by kernel_rfl) (by decide) (fun _ _ _ h => h) (fun _ => hS) (Or.inl ⟨by kernel_rfl, fun _ _ => ?_⟩) ?_
          rotate_left
          · go_simp
            try with_reducible rfl
          refine wpU_pureH (i := 6) (j := 64) (v := ?_) rfl rfl (by kernel_rfl) (by kernel_rfl) (by kernel_rfl) (by decide) (fun _ _ _ h => h) (fun _ => hS) (Or.inl ⟨by kernel_rfl, fun _ _ => ?_⟩) ?_
          rotate_left
          · go_simp
            try with_reducible rfl
          refine wpU_loadH (i := 8) (j := 66) (v := ?_) rfl rfl (by kernel_rfl) (by kernel_rfl) (by kernel_rfl) (by decide) (by kernel_rfl) (by kernel_rfl) (fun _ _ _ h => h) hS (Or.inl ⟨by kernel_rfl, fun wl hl => ?_⟩) ?_
          rotate_left
          · obtain ⟨l0, l1, l2, l3⟩ := hl
            go_simp
            try with_reducible rfl
          refine wpU_pureH (i := 11) (j := 69) (v := ?_) rfl rfl (by kernel_rfl) (by kernel_rfl) (by kernel_rfl) (by decide) (fun _ _ _ h => h) (fun _ => hS) (Or.inl ⟨by kernel_rfl, fun _ _ => ?_⟩) ?_
          rotate_left
          · go_simp
            try with_reducible rfl
          refine wpU_pureH (i := 12) (j := 70) (v := ?_) rfl rfl (by kernel_rfl) (by kernel_rfl) (by kernel_rfl) (by decide) (fun _ _ _ h => h) (fun _ => hS) (Or.inl ⟨by kernel_rfl, fun _ _ => ?_⟩) ?_
          rotate_left
          · go_simp
            try with_reducible rfl
          refine wpU_pureH (i := 13) (j := 71) (v := ?_) rfl rfl (by kernel_rfl) (by kernel_rfl) (by kernel_rfl) (by decide) (fun _ _ _ h => h) (fun _ => hS) (Or.inl ⟨by kernel_rfl, fun _ _ => ?_⟩) ?_
          rotate_left
          · go_simp
            try with_reducible rfl
          refine wpU_loadH (i := 14) (j := 72) (v := ?_) rfl rfl (by kernel_rfl) (by kernel_rfl) (by kernel_rfl) (by decide) (by kernel_rfl) (by kernel_rfl) (fun _ _ _ h => h) hS (Or.inl ⟨by kernel_rfl, fun wl hl => ?_⟩) ?_
          rotate_left
          · obtain ⟨l0, l1, l2, l3⟩ := hl
            go_simp
            try with_reducible rfl
          refine wpU_pureH (i := 15) (j := 73) (v := ?_) rfl rfl (by kernel_rfl) (by kernel_rfl) (by kernel_rfl) (by decide) (fun _ _ _ h => h) (fun _ => hS) (Or.inl ⟨by kernel_rfl, fun _ _ => ?_⟩) ?_
          rotate_left
          · go_simp
            try with_reducible rfl
          refine wpU_pureH (i := 16) (j := 74) (v := ?_) rfl rfl (by kernel_rfl) (by kernel_rfl) (by kernel_rfl) (by decide) (fun _ _ _ h => h) (fun _ => hS) (Or.inl ⟨by kernel_rfl, fun _ _ => ?_⟩) ?_
          rotate_left
          · go_simp
            try with_reducible rfl
          refine wpU_all [7, 9] (by kernel_rfl) (by simp) ?_
          refine ReadyU.cons rfl (fun K hK => ?_) (ReadyU.cons rfl (fun K hK => ?_) ReadyU.nil)
          · have HB := Lib.hid (Chg.of_ext (Ext.of_drawn w6 1) (fun b => w6.heap.size ≤ b))
            refine step_of_wp rfl (wp_appk (B := w6.heap.size) _ _ 91 91 103 zrf 3 48 rfl Try.underlying91 info_rf rfl rfl (OwnK.nil _ _ _ _) (by go_simp) (SRC1.out _ HB.out) (by rw [NL1.out]) (by unfold maxLen; omega) (by omega) HB.out.size fun a1 k1 w7 ha => ?_)
            have hc7 := HB.out.trans ((Chg.refl (fun b => w6.heap.size ≤ b) _).grown ha.2.1 (fun k hk => by cases hk))
            have hS : (fun w' : World => w'.cell? ⟨r, 0, none⟩ = some (.slice (some ⟨g, 0, none⟩) n lc) ∧ w'.cell? ⟨fb, 0, none⟩ = some (.string (bstr p)) ∧ w'.cell? ⟨fb, 1, none⟩ = some (.slice xa xl xc) ∧ w'.cell? ⟨fb, 2, none⟩ = some (.bool sv)) w7 := ⟨hc7.cell c0 (show ¬ w6.heap.size ≤ r by omega), hc7.cell f0 (show ¬ w6.heap.size ≤ fb by omega), hc7.cell f1 (show ¬ w6.heap.size ≤ fb by omega), hc7.cell f2 (show ¬ w6.heap.size ≤ fb by omega)⟩
            refine hK.out _ _ (fun _ => hS) ?_
            refine wpU_putH (j := 65) rfl ?_
            clear hK K
            have HA1 := Lib.hid (And.intro ha.1 hc7)
            clear ha hc7
            refine wpU_all [9] (by kernel_rfl) (by simp) ?_
            refine ReadyU.cons rfl (fun K hK => ?_) ReadyU.nil
            have hc8 := HA1.out.2.alloc (.cells #[.string (bstr p), .slice xa xl xc, .bool sv] 103)
            have hS : (fun w' : World => w'.cell? ⟨r, 0, none⟩ = some (.slice (some ⟨g, 0, none⟩) n lc) ∧ w'.cell? ⟨fb, 0, none⟩ = some (.string (bstr p)) ∧ w'.cell? ⟨fb, 1, none⟩ = some (.slice xa xl xc) ∧ w'.cell? ⟨fb, 2, none⟩ = some (.bool sv)) (w7.alloc (.cells #[.string (bstr p), .slice xa xl xc, .bool sv] 103)) := ⟨hc8.cell c0 (show ¬ w6.heap.size ≤ r by omega), hc8.cell f0 (show ¬ w6.heap.size ≤ fb by omega), hc8.cell f1 (show ¬ w6.heap.size ≤ fb by omega), hc8.cell f2 (show ¬ w6.heap.size ≤ fb by omega)⟩
            have hq := one_src w7 p fx HFX.out _ (Chg.refl _ _)
            rw [HFV.out.1, HFV.out.2] at hq
            have HA := Lib.hid (And.intro (HA1.out.1.ext ((Ext.refl w7).alloc (Nat.le_refl _) (.cells #[.string (bstr p), .slice xa xl xc, .bool sv] 103))) (And.intro hq hc8))
            simp only [List.set_cons_zero, List.set_cons_succ]
            go_simp
            refine hK.out _ _ (fun _ => hS) ?_
            clear hK K hc8 hq
            refine wpU_all [10] (by kernel_rfl) (by simp) ?_
            refine ReadyU.cons rfl (fun K hK => ?_) ReadyU.nil
            refine step_of_wp rfl (wp_appk (B := w6.heap.size) _ _ 91 91 103 zrf 3 48 rfl Try.underlying91 info_rf rfl (by go_simp) HA.out.1 (by go_simp) HA.out.2.1 (by rfl) (by unfold maxLen; omega) (by omega) HA.out.2.2.size fun a2 k2 w9 ha => ?_)
            have hc9 : Chg (fun b => w6.heap.size ≤ b) w6 w9 := HA.out.2.2.trans ((Chg.refl (fun b => w6.heap.size ≤ b) _).grown ha.2.1 (fun k hk => .inl (HA.out.1.block k hk)))
            have hS : (fun w' : World => w'.cell? ⟨r, 0, none⟩ = some (.slice (some ⟨g, 0, none⟩) n lc) ∧ w'.cell? ⟨fb, 0, none⟩ = some (.string (bstr p)) ∧ w'.cell? ⟨fb, 1, none⟩ = some (.slice xa xl xc) ∧ w'.cell? ⟨fb, 2, none⟩ = some (.bool sv)) w9 := ⟨hc9.cell c0 (show ¬ w6.heap.size ≤ r by omega), hc9.cell f0 (show ¬ w6.heap.size ≤ fb by omega), hc9.cell f1 (show ¬ w6.heap.size ≤ fb by omega), hc9.cell f2 (show ¬ w6.heap.size ≤ fb by omega)⟩
            refine hK.out _ _ (fun _ => hS) ?_
            refine wpU_putH (j := 68) rfl ?_
            clear hK K
            have HA2 := Lib.hid (And.intro ha.1 hc9)
            clear ha hc9
            refine wpU_all [17] (by kernel_rfl) (by simp) ?_
            refine ReadyU.cons rfl (fun K hK => ?_) ReadyU.nil
            refine step_of_wp rfl (wp_appk (B := w6.heap.size) _ _ 91 91 103 zrf 3 48 rfl Try.underlying91 info_rf rfl (by go_simp) HA2.out.1 (by go_simp) (SRC2.out _ HA2.out.2) (by rw [NL2.out]) (by unfold maxLen; omega) (by omega) HA2.out.2.size fun a3 k3 wa ha => ?_)
            have hca : Chg (fun b => w6.heap.size ≤ b) w6 wa := HA2.out.2.trans ((Chg.refl (fun b => w6.heap.size ≤ b) _).grown ha.2.1 (fun k hk => .inl (HA2.out.1.block k hk)))
            have hS : (fun w' : World => w'.cell? ⟨r, 0, none⟩ = some (.slice (some ⟨g, 0, none⟩) n lc) ∧ w'.cell? ⟨fb, 0, none⟩ = some (.string (bstr p)) ∧ w'.cell? ⟨fb, 1, none⟩ = some (.slice xa xl xc) ∧ w'.cell? ⟨fb, 2, none⟩ = some (.bool sv)) wa := ⟨hca.cell c0 (show ¬ w6.heap.size ≤ r by omega), hca.cell f0 (show ¬ w6.heap.size ≤ fb by omega), hca.cell f1 (show ¬ w6.heap.size ≤ fb by omega), hca.cell f2 (show ¬ w6.heap.size ≤ fb by omega)⟩
            have ua := hca.unfrozen c0 u0 (show ¬ w6.heap.size ≤ r by omega)
            refine hK.out _ _ (fun _ => hS) ?_
            refine wpU_putH (j := 75) rfl ?_
            clear hK K
            have hll : (es1.take i ++ (p, fx) :: es1.drop i).length = 0 + i + 1 + (n - i) := by  rw [List.length_append, List.length_cons, List.length_take, List.length_drop, HNN.out]; omega
            have ho := ha.1
            have ecs : (([] ++ rcells (List.take i es1)) ++ rc (p, fx)) ++ rcells (List.drop i es1) = rcells (es1.take i ++ (p, fx) :: es1.drop i) := by  rw [List.nil_append, rcells_append, rcells_cons, List.append_assoc]
            rw [ecs, ← hll] at ho
            have FIN := H6.out.relist hca ho HUP.out (HFI.out _ hca) HPP.out
            rw [Nat.zero_add] at hll
            rw [hll] at FIN
            have FIN := Lib.hid FIN
            clear ha hca ho ecs hll
            refine wpU_pureH (i := 18) (j := 76) (v := ?_) rfl rfl (by kernel_rfl) (by kernel_rfl) (by kernel_rfl) (by decide) (fun _ _ _ h => h) (fun _ => hS) (Or.inl ⟨by kernel_rfl, fun _ _ => ?_⟩) ?_
            rotate_left
            · go_simp
              try with_reducible rfl
            refine wpU_pureH (i := 19) (j := 77) (v := ?_) rfl rfl (by kernel_rfl) (by kernel_rfl) (by kernel_rfl) (by decide) (fun _ _ _ h => h) (fun _ => hS) (Or.inl ⟨by kernel_rfl, fun _ _ => ?_⟩) ?_
            rotate_left
            · go_simp
              try with_reducible rfl
            refine wpU_all [20] (by kernel_rfl) (by simp) ?_
            refine ReadyU.cons rfl (fun K hK => ?_) ReadyU.nil
            simp only [List.set_cons_zero, List.set_cons_succ]
            go_simp
            refine hK.out _ _ (fun h => Bool.noConfusion (show true = false from h)) ?_
            clear hK K
            refine wpU_done (by kernel_rfl) ?_ _
            exact cut_end ⟨⟨_, FIN.out.1, FIN.out.2.1⟩, FIN.out.2.2⟩ (by kernel_rfl)
          · have hc8 := (Chg.of_ext (Ext.of_drawn w6 1) (fun b => w6.heap.size ≤ b)).alloc (.cells #[.string (bstr p), .slice xa xl xc, .bool sv] 103)
            have hS : (fun w' : World => w'.cell? ⟨r, 0, none⟩ = some (.slice (some ⟨g, 0, none⟩) n lc) ∧ w'.cell? ⟨fb, 0, none⟩ = some (.string (bstr p)) ∧ w'.cell? ⟨fb, 1, none⟩ = some (.slice xa xl xc) ∧ w'.cell? ⟨fb, 2, none⟩ = some (.bool sv)) (w6.drew.alloc (.cells #[.string (bstr p), .slice xa xl xc, .bool sv] 103)) := ⟨hc8.cell c0 (show ¬ w6.heap.size ≤ r by omega), hc8.cell f0 (show ¬ w6.heap.size ≤ fb by omega), hc8.cell f1 (show ¬ w6.heap.size ≤ fb by omega), hc8.cell f2 (show ¬ w6.heap.size ≤ fb by omega)⟩
            have hq := one_src w6.drew p fx HFX.out
            rw [HFV.out.1, HFV.out.2] at hq
            simp only [List.set_cons_zero, List.set_cons_succ]
            go_simp
            refine hK.out _ _ (fun _ => hS) ?_
            have HB := Lib.hid hc8
            have HQ := Lib.hid hq
            clear hK K hc8 hq
            refine wpU_all [7] (by kernel_rfl) (by simp) ?_
            refine ReadyU.cons rfl (fun K hK => ?_) ReadyU.nil
            refine step_of_wp rfl (wp_appk (B := w6.heap.size) _ _ 91 91 103 zrf 3 48 rfl Try.underlying91 info_rf rfl rfl (OwnK.nil _ _ _ _) (by go_simp) (SRC1.out _ HB.out) (by rw [NL1.out]) (by unfold maxLen; omega) (by omega) HB.out.size fun a1 k1 w7 ha => ?_)
            have hc7 := HB.out.trans ((Chg.refl (fun b => w6.heap.size ≤ b) _).grown ha.2.1 (fun k hk => by cases hk))
            have hS : (fun w' : World => w'.cell? ⟨r, 0, none⟩ = some (.slice (some ⟨g, 0, none⟩) n lc) ∧ w'.cell? ⟨fb, 0, none⟩ = some (.string (bstr p)) ∧ w'.cell? ⟨fb, 1, none⟩ = some (.slice xa xl xc) ∧ w'.cell? ⟨fb, 2, none⟩ = some (.bool sv)) w7 := ⟨hc7.cell c0 (show ¬ w6.heap.size ≤ r by omega), hc7.cell f0 (show ¬ w6.heap.size ≤ fb by omega), hc7.cell f1 (show ¬ w6.heap.size ≤ fb by omega), hc7.cell f2 (show ¬ w6.heap.size ≤ fb by omega)⟩
            refine hK.out _ _ (fun _ => hS) ?_
            refine wpU_putH (j := 65) rfl ?_
            clear hK K
            have HA := Lib.hid (And.intro ha.1 (And.intro (HQ.out w7 ((Chg.refl _ _).grown ha.2.1 (fun k hk => by cases hk))) hc7))
            clear ha hc7
            refine wpU_all [10] (by kernel_rfl) (by simp) ?_
            refine ReadyU.cons rfl (fun K hK => ?_) ReadyU.nil
            refine step_of_wp rfl (wp_appk (B := w6.heap.size) _ _ 91 91 103 zrf 3 48 rfl Try.underlying91 info_rf rfl (by go_simp) HA.out.1 (by go_simp) HA.out.2.1 (by rfl) (by unfold maxLen; omega) (by omega) HA.out.2.2.size fun a2 k2 w9 ha => ?_)
            have hc9 : Chg (fun b => w6.heap.size ≤ b) w6 w9 := HA.out.2.2.trans ((Chg.refl (fun b => w6.heap.size ≤ b) _).grown ha.2.1 (fun k hk => .inl (HA.out.1.block k hk)))
            have hS : (fun w' : World => w'.cell? ⟨r, 0, none⟩ = some (.slice (some ⟨g, 0, none⟩) n lc) ∧ w'.cell? ⟨fb, 0, none⟩ = some (.string (bstr p)) ∧ w'.cell? ⟨fb, 1, none⟩ = some (.slice xa xl xc) ∧ w'.cell? ⟨fb, 2, none⟩ = some (.bool sv)) w9 := ⟨hc9.cell c0 (show ¬ w6.heap.size ≤ r by omega), hc9.cell f0 (show ¬ w6.heap.size ≤ fb by omega), hc9.cell f1 (show ¬ w6.heap.size ≤ fb by omega), hc9.cell f2 (show ¬ w6.heap.size ≤ fb by omega)⟩
            refine hK.out _ _ (fun _ => hS) ?_
            refine wpU_putH (j := 68) rfl ?_
            clear hK K
            have HA2 := Lib.hid (And.intro ha.1 hc9)
            clear ha hc9
            refine wpU_all [17] (by kernel_rfl) (by simp) ?_
            refine ReadyU.cons rfl (fun K hK => ?_) ReadyU.nil
            refine step_of_wp rfl (wp_appk (B := w6.heap.size) _ _ 91 91 103 zrf 3 48 rfl Try.underlying91 info_rf rfl (by go_simp) HA2.out.1 (by go_simp) (SRC2.out _ HA2.out.2) (by rw [NL2.out]) (by unfold maxLen; omega) (by omega) HA2.out.2.size fun a3 k3 wa ha => ?_)
            have hca : Chg (fun b => w6.heap.size ≤ b) w6 wa := HA2.out.2.trans ((Chg.refl (fun b => w6.heap.size ≤ b) _).grown ha.2.1 (fun k hk => .inl (HA2.out.1.block k hk)))
            have hS : (fun w' : World => w'.cell? ⟨r, 0, none⟩ = some (.slice (some ⟨g, 0, none⟩) n lc) ∧ w'.cell? ⟨fb, 0, none⟩ = some (.string (bstr p)) ∧ w'.cell? ⟨fb, 1, none⟩ = some (.slice xa xl xc) ∧ w'.cell? ⟨fb, 2, none⟩ = some (.bool sv)) wa := ⟨hca.cell c0 (show ¬ w6.heap.size ≤ r by omega), hca.cell f0 (show ¬ w6.heap.size ≤ fb by omega), hca.cell f1 (show ¬ w6.heap.size ≤ fb by omega), hca.cell f2 (show ¬ w6.heap.size ≤ fb by omega)⟩
            have ua := hca.unfrozen c0 u0 (show ¬ w6.heap.size ≤ r by omega)
            refine hK.out _ _ (fun _ => hS) ?_
            refine wpU_putH (j := 75) rfl ?_
            clear hK K
            have hll : (es1.take i ++ (p, fx) :: es1.drop i).length = 0 + i + 1 + (n - i) := by  rw [List.length_append, List.length_cons, List.length_take, List.length_drop, HNN.out]; omega
            have ho := ha.1
            have ecs : (([] ++ rcells (List.take i es1)) ++ rc (p, fx)) ++ rcells (List.drop i es1) = rcells (es1.take i ++ (p, fx) :: es1.drop i) := by  rw [List.nil_append, rcells_append, rcells_cons, List.append_assoc]
            rw [ecs, ← hll] at ho
            have FIN := H6.out.relist hca ho HUP.out (HFI.out _ hca) HPP.out
            rw [Nat.zero_add] at hll
            rw [hll] at FIN
            have FIN := Lib.hid FIN
            clear ha hca ho ecs hll
            refine wpU_pureH (i := 18) (j := 76) (v := ?_) rfl rfl (by kernel_rfl) (by kernel_rfl) (by kernel_rfl) (by decide) (fun _ _ _ h => h) (fun _ => hS) (Or.inl ⟨by kernel_rfl, fun _ _ => ?_⟩) ?_
            rotate_left
            · go_simp
              try with_reducible rfl
            refine wpU_pureH (i := 19) (j := 77) (v := ?_) rfl rfl (by kernel_rfl) (by kernel_rfl) (by kernel_rfl) (by decide) (fun _ _ _ h => h) (fun _ => hS) (Or.inl ⟨by kernel_rfl, fun _ _ => ?_⟩) ?_
            rotate_left
            · go_simp
              try with_reducible rfl
            refine wpU_all [20] (by kernel_rfl) (by simp) ?_
            refine ReadyU.cons rfl (fun K hK => ?_) ReadyU.nil
            simp only [List.set_cons_zero, List.set_cons_succ]
            go_simp
            refine hK.out _ _ (fun h => Bool.noConfusion (show true = false from h)) ?_
            clear hK K
            refine wpU_done (by kernel_rfl) ?_ _
            exact cut_end ⟨⟨_, FIN.out.1, FIN.out.2.1⟩, FIN.out.2.2⟩ (by kernel_rfl)
        · intro us w8 h8
          have H8 := Lib.hid (FINR.out w8 h8)
          clear h8 hS c0 f0 f1 f2 u0
          simp only [setAll, List.foldl_cons, List.foldl_nil, List.set_cons_zero, List.set_cons_succ]
          go_wp2_with fail
          go_ret
          exact H8.out
    | some y =>
      have HX2 := Lib.hid hx2
      obtain ⟨hpl, hpe⟩ := there_at H6.out.up hx2
      have hpl1 : i < n := by have := HQ.out; have := HNN.out; omega
      obtain ⟨g, cap6, hlv6, -, g0, g1, g2, gu⟩ := H6.out.entry (i := i) (by rw [HNN.out]; exact hpl1)
      cases hlv6
      obtain ⟨v0, hv0⟩ : ∃ v0, es1[i]'(by rw [HNN.out]; exact hpl1) = v0 := ⟨_, rfl⟩
      rw [hv0] at g0 g1 g2
      have gu0 := gu (i * 3)
      have gu1 := gu (i * 3 + 1)
      have gu2 := gu (i * 3 + 2)
      have S0 : (fun w' : World => w'.cell? ⟨r, 0, none⟩ = some (.slice (some ⟨g, 0, none⟩) n lc) ∧ w'.cell? ⟨fb, 0, none⟩ = some (.string (bstr p)) ∧ w'.cell? ⟨fb, 1, none⟩ = some (.slice xa xl xc) ∧ w'.cell? ⟨fb, 2, none⟩ = some (.bool sv)) w6.drew := ⟨c0, f0, f1, f2⟩
      have hpi : (i : Int) < (n : Int) := by omega
      have hgfb : ¬ fb = g := fun e => HLF.out (by rw [e]; rfl)
      have hgr : ¬ r = g := fun e => H6.out.self.1 (by rw [e]; rfl)
      have hc7 : Chg (fun k => k = g) w6 (((w6.setCell ⟨g, i * 3, none⟩ (.string (bstr p))).setCell ⟨g, i * 3 + 1, none⟩ (.slice xa xl xc)).setCell ⟨g, i * 3 + 2, none⟩ (.bool sv)) := (((Chg.refl (fun k => k = g) w6).at g (i * 3) (.inl rfl) _).at g (i * 3 + 1) (.inl rfl) _).at g (i * 3 + 2) (.inl rfl) _
      have hSS : (fun w' : World => w'.cell? ⟨r, 0, none⟩ = some (.slice (some ⟨g, 0, none⟩) n lc) ∧ w'.cell? ⟨fb, 0, none⟩ = some (.string (bstr p)) ∧ w'.cell? ⟨fb, 1, none⟩ = some (.slice xa xl xc) ∧ w'.cell? ⟨fb, 2, none⟩ = some (.bool sv)) (((w6.setCell ⟨g, i * 3, none⟩ (.string (bstr p))).setCell ⟨g, i * 3 + 1, none⟩ (.slice xa xl xc)).setCell ⟨g, i * 3 + 2, none⟩ (.bool sv)).drew := ⟨hc7.cell c0 hgr, hc7.cell f0 hgfb, hc7.cell f1 hgfb, hc7.cell f2 hgfb⟩
      have hset := ((H6.out.lst.set (i * 3) (.string (bstr p))).set (i * 3 + 1) (.slice xa xl xc)).set (i * 3 + 2) (.bool sv)
      have hcs : (((rcells es1).set (i * 3) (.string (bstr p))).set (i * 3 + 1) (.slice xa xl xc)).set (i * 3 + 2) (.bool sv) = rcells (put p fx es1) := by
        rw [put_there H6.out.up HX2.out, HQ.out]
        exact rcells_set3 es1 i (by rw [HNN.out]; exact hpl1) (p, fx) _ _ _ (by unfold rc; rw [HFV.out.1, HFV.out.2])
      rw [hcs] at hset
      have hnb : fx.v.ownBlock ≠ some g := fun e => by
        obtain ⟨cur, hr⟩ := H6.out.lst.row (b := g) rfl
        exact HXF.out.ne hr (fun e => rty4 e.symm) e
      have hU7 := HXF.out.chg hc7 fun k hk e => hnb (by rw [hk, e])
      have h7 := (H6.out.mark (x' := fx) HX2.out hnb hc7 hset hU7)
      rw [show ({ d6 with fs := put p fx.f d6.fs } : DS) = { (begins z d [a, p]).2.2 with fs := put p fx.f (del a d.fs) } by rw [← HD6.out]] at h7
      have hgw := HF5.out g rfl
      have hz7 := HZ6.out.chg hc7 fun k hk e => by have := HS.out.2.2.2 k hk; omega
      have hg7 : Chg (fun b => S b ∨ rf = some b) w (((w6.setCell ⟨g, i * 3, none⟩ (.string (bstr p))).setCell ⟨g, i * 3 + 1, none⟩ (.slice xa xl xc)).setCell ⟨g, i * 3 + 2, none⟩ (.bool sv)) := HG6.out.then (hc7.mono fun k hk e => by subst e; exact .inr ⟨hgw, hk⟩)
      have FIN : Hid (RefOut r rf S w (renames z d a p) (.returned (.int .i64 0)) (((w6.setCell ⟨g, i * 3, none⟩ (.string (bstr p))).setCell ⟨g, i * 3 + 1, none⟩ (.slice xa xl xc)).setCell ⟨g, i * 3 + 2, none⟩ (.bool sv)).drew) := Lib.hid (by
        unfold RefOut
        rw [HR.out]
        refine ⟨rfl, hz7.chg (Chg.of_ext (Ext.of_drawn _ 1) (fun _ => False)) (fun _ _ h => h), (h7.ext (Ext.of_drawn _ 1)).refAt (fun k hk => ?_) HS.out.2.1 HS.out.2.2.1 HS.out.2.2.2 hg7.size, hg7.trans (Chg.of_ext (Ext.of_drawn _ 1) _)⟩
        rcases hk with hk | hk | hk
        · exact .inl (HS.out.1 k (.inl hk))
        · cases hk
          exact .inr ⟨hgw, h7.lst.lt rfl⟩
        · exact .inl (HFOOT.out k hk))
      clear hc7 hset hcs hnb hU7 h7 hz7 hg7 hgfb hgr hgw gu hv0 hpe hx2
      go_wp2_with fail
      go_region_held3 (fun w' : World => w'.cell? ⟨r, 0, none⟩ = some (.slice (some ⟨g, 0, none⟩) n lc) ∧ w'.cell? ⟨fb, 0, none⟩ = some (.string (bstr p)) ∧ w'.cell? ⟨fb, 1, none⟩ = some (.slice xa xl xc) ∧ w'.cell? ⟨fb, 2, none⟩ = some (.bool sv)) (assumption) (fail)
      clear hSS S0
      go_wp2_with fail
      go_ret
      exact FIN.out
end Go.Proofs.Ytnphkddhckcpmaa
