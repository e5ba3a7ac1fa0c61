/-
  The reference's disk: Write.
  The reference's disk: Rename.
-/
import Derived.Test.YthkbbcdnmdjhdaaGreatD4
/-! XRfE: The reference's disk: Write. -/
namespace Go.Proofs.YthkbbcdnmdjhdaaGreat
open Go.RowKit Dk
set_option maxRecDepth 100000
set_option maxHeartbeats 4000000
attribute [local go_sem] min_int2 max_int2 bstr_toList bstr_size

/-- One entry, laid for an append. -/
theorem one_src (w : World) (p : Path) (fx : REnt) (hf : fx.v.oneCell' = true) (w' : World) (hc : Chg (fun _ => False) (w.alloc (.cells #[.string (bstr p), fx.v, .bool fx.f.sure] 194)) w') : Src Tryz.prog 3 190 (.slice (some ⟨w.heap.size, 0, none⟩) 1 1) 1 (rc (p, fx)) w' := by
  have hr := (Row.new w 194 #[.string (bstr p), fx.v, .bool fx.f.sure]).chg hc (fun h => h)
  refine Src.ofSlice _ Tryz.underlying190 ⟨w.heap.size, 0, none⟩ 1 1 _ rfl (fun j u hu => ?_) (fun u hu => ?_)
  · rw [Addr.add_lit, Nat.zero_add]
    refine hr.cell ?_
    unfold rc at hu
    rw [← hu]
    rcases j with _ | _ | _ | j <;> rfl
  · unfold rc at hu
    simp only [List.mem_cons, List.not_mem_nil, or_false] at hu
    rcases hu with rfl | rfl | rfl
    · rfl
    · exact hf
    · rfl
theorem rcells_set3 : ∀ (es : L REnt) (i : Nat), i < es.length → ∀ (y : Path × REnt) (a b c : Value), rc y = [a, b, c] → (((rcells es).set (i * 3) a).set (i * 3 + 1) b).set (i * 3 + 2) c = rcells (es.set i y)
  | [], _, h, _, _, _, _, _ => absurd h (Nat.not_lt_zero _)
  | e :: es, 0, _, y, a, b, c, hy => by
    rw [List.set_cons_zero, rcells_cons, rcells_cons, hy]; rfl
  | e :: es, i + 1, h, y, a, b, c, hy => by
    have := rcells_set3 es i (by simpa using h) y a b c hy
    rw [List.set_cons_succ, rcells_cons, rcells_cons, ← this, show (i + 1) * 3 = (i * 3) + 1 + 1 + 1 by omega]
    rfl
/-- Parts of the list as what is appended. -/
theorem RRaw.src1 {w : World} {r : Nat} {rf : Option Nat} {es : L REnt} {d : DS} {la : Option Addr} {lc : Nat} (h : RRaw w r rf (.slice la es.length lc) es d) (i : Nat) (hi : i ≤ es.length) (w' : World) (hc : Chg (fun b => w.heap.size ≤ b) w w') : Src Tryz.prog 3 190 (.slice la i lc) i (rcells (es.take i)) w' := by
  have hL := h.lst.chg hc fun b hb hk => by have := h.lst.lt hb; omega
  have h1 := hL.src (P := Tryz.prog) Tryz.underlying190 h.ones (lo := 0) (hi := i) (Nat.zero_le _) hi (x := .slice la i lc) (fun g' cap' e => by cases e; exact ⟨_, by rw [Nat.zero_mul]; rfl⟩) (fun e => by
    simp only [Value.slice.injEq] at e
    obtain ⟨rfl, hn, rfl⟩ := e
    have : i = 0 := by omega
    subst this
    exact ⟨0, rfl⟩)
  rw [Nat.zero_mul, List.drop_zero, Nat.sub_zero, rcells_take] at h1
  exact h1
theorem RRaw.src2 {w : World} {r : Nat} {rf : Option Nat} {es : L REnt} {d : DS} {g cap : Nat} (h : RRaw w r rf (.slice (some ⟨g, 0, none⟩) es.length cap) es d) (j : Nat) (hj : j ≤ es.length) (hcap : es.length ≤ cap) (w' : World) (hc : Chg (fun b => w.heap.size ≤ b) w w') :
    Src Tryz.prog 3 190 (.slice (if cap = j then some ⟨g, 0, none⟩ else some ⟨g, j * 3, none⟩) (es.length - j) (cap - j)) (es.length - j) (rcells (es.drop j)) w' := by
  have hL := h.lst.chg hc fun b hb hk => by have := h.lst.lt hb; omega
  by_cases hcj : cap = j
  · rw [if_pos hcj]
    have e1 : es.length - j = 0 := by omega
    have e2 : es.drop j = [] := List.drop_of_length_le (by omega)
    rw [e1, e2]
    exact Src.ofSlice w' Tryz.underlying190 ⟨g, 0, none⟩ 0 _ [] (by simp) (by simp) (by simp)
  · rw [if_neg hcj]
    have h1 := hL.src (P := Tryz.prog) Tryz.underlying190 h.ones (lo := j) (hi := es.length) hj (Nat.le_refl _) (x := .slice (some ⟨g, j * 3, none⟩) (es.length - j) (cap - j)) (fun g' cap' e => by cases e; exact ⟨_, rfl⟩) (fun e => by cases e)
    rw [rcells_drop, List.take_of_length_le (by rw [rcells_length, List.length_drop]; exact Nat.le_refl _)] at h1
    exact h1
theorem RefAt.nobytes {w : World} {r : Nat} {rf : Option Nat} {z : Option FS} {d : DS} {S : Nat → Prop} (h : RefAt w r rf d S) (hz : RzAt w rf z) : ∀ b o x, (b = r ∨ rf = some b) → w.cell? ⟨b, o, none⟩ ≠ some (bv x) := by
  obtain ⟨lv, es, h, -⟩ := h
  intro b o x hb hc
  rcases hb with rfl | rfl
  · have hr := h.row
    obtain ⟨la, lc, rfl⟩ := h.lst.slice
    unfold Row at hr
    simp only [World.cell?, hr] at hc
    have : (#[.slice la es.length lc, .int .i64 (d.most : Int), fptr rf, .bool d.off, .int .i64 (d.bad : Int)] : Array Value)[o]? = some (bv x) := by simpa using hc
    rcases o with _ | _ | _ | _ | _ | o <;> simp [fptr] at this
  · cases z with
    | none => exact hz
    | some z =>
      have hr := hz.1
      unfold Row at hr
      simp only [World.cell?, hr] at hc
      have : (#[.int .i64 z.n, .int .i64 (z.ops : Int), .bool z.blown] : Array Value)[o]? = some (bv x) := by simpa using hc
      rcases o with _ | _ | _ | o <;> simp at this
theorem rwrite_any (r : Nat) (rf : Option Nat) (z : Option FS) (d : DS) (S : Nat → Prop) (p : Path) (v : Value) (b : List UInt8) (w : World) (h : RefAt w r rf d S) (hz : RzAt w rf z) (hzo : zops z < 1099511627776) (hp : p.length ≤ maxLen) (hn : d.fs.length ≤ 4096) (hv : Bytes w v b) (hb : b.length ≤ 140737488351232) (ht : tot d.fs ≤ 1099511627776) :
    Calls Tryz.prog 76 #[.pointer (some ⟨r, 0, none⟩), .string (bstr p), v] w (RefOut r rf S w (writes z d p b)) := by
  have HV := Lib.hid hv
  have HNB := Lib.hid (h.nobytes hz)
  obtain ⟨va, vc, rfl⟩ := Bytes.slice hv
  clear hv
  obtain ⟨lv, es, h, hS1, hS2, hS3⟩ := h
  have x0 : Ext w (w.alloc (.cells #[.string (bstr p)] 9)) := (Ext.refl w).alloc (Nat.le_refl _) _
  have hst := Strs.one w p
  obtain ⟨w1, hw1⟩ : ∃ w1, w.alloc (.cells #[.string (bstr p)] 9) = w1 := ⟨_, rfl⟩
  have HW1 := Lib.hid hw1
  rw [hw1] at x0 hst
  have H := Lib.hid (And.intro (h.ext x0) (And.intro (hz.chg (Chg.of_ext x0 (fun _ => False)) (fun _ _ h => h)) (And.intro hst x0)))
  have HS := Lib.hid (And.intro hS1 (And.intro hS2 (And.intro hS3 (fun b hb => hz.lt b hb))))
  have hlen : es.length ≤ 4096 := by have h1 := h.fs; rw [h1] at hn; simpa [rfils, mapv_length] using hn
  have HP := Lib.hid hp
  clear h hz hS1 hS2 hS3 hst hw1 x0 hp
  go_enter Tryz.func76, Tryz.ntmps76
  go_wp2_with fail
  rw [HW1.out]
  refine (ask_any r rf z lv es d [p] _ _ H.out.1 H.out.2.1 hzo (by simp) (by simpa using HP.out) H.out.2.2.1).mono ?_; rintro e w2 ⟨rfl, hz2, h2, hg2, hsz2⟩
  have HG2 := Lib.hid ((Chg.of_ext H.out.2.2.2 (fun b => S b ∨ rf = some b)).trans (hg2.mono (T := fun b => S b ∨ rf = some b) fun b _ hb => by
    rcases hb with rfl | hb
    · exact .inl (HS.out.1 _ (.inl rfl))
    · exact .inr hb))
  have HGR := Lib.hid ((Chg.of_ext H.out.2.2.2 (fun b => b = r ∨ rf = some b)).trans hg2)
  have HZ2 := Lib.hid hz2
  have H2 := Lib.hid h2
  have HFS := Lib.hid (H.out.1.fs)
  clear hz2 h2 hg2 hsz2 HW1
  obtain ⟨n, hnn⟩ : ∃ n, (begins z d [p]).1 = n := ⟨_, rfl⟩
  rw [hnn]
  have HN := Lib.hid hnn
  clear hnn
  by_cases h0 : n = 0
  case neg =>
    have q1 : ((n : Int) != 0) = true := by simp; omega
    have HO := Lib.hid (show opens z d p [] = n by unfold opens; rw [HN.out, if_neg h0])
    have HNZ := Lib.hid h0
    clear h0
    go_wp2_with fail
    go_ret
    have HR := Lib.hid (show writes z d p b = (n, (begins z d [p]).2) by unfold writes; rw [HN.out, if_pos HNZ.out, ← HN.out])
    unfold RefOut
    rw [HR.out]
    exact ⟨rfl, HZ2.out, H2.out.refAt (fun b hb => .inl (HS.out.1 b hb)) HS.out.2.1 HS.out.2.2.1 HS.out.2.2.2 HG2.out.size, HG2.out⟩
  subst h0
  have q1 : (((0 : Nat) : Int) != 0) = false := rfl
  have hokp : okP p = true := by
    have h1 := HN.out
    unfold begins at h1
    by_cases c1 : (ticks z).1 = false
    · rw [if_pos c1] at h1; cases h1
    · rw [if_neg c1] at h1
      by_cases c2 : d.off = true
      · rw [if_pos c2] at h1; cases h1
      · rw [if_neg c2] at h1
        by_cases c3 : 0 < d.bad
        · rw [if_pos c3] at h1; cases h1
        · rw [if_neg c3] at h1
          by_cases c4 : [p].all okP = true
          · simpa using c4
          · rw [if_neg c4] at h1; cases h1
  have HOK := Lib.hid hokp
  clear hokp
  by_cases hbl : 262144 < b.length
  · have hbl' : (262144 : Int) < (b.length : Int) := by omega
    have HR := Lib.hid (show writes z d p b = (3, (begins z d [p]).2) by unfold writes; rw [HN.out, if_neg (by simp), if_pos hbl])
    go_wp2_with fail
    go_ret
    unfold RefOut
    rw [HR.out]
    exact ⟨rfl, HZ2.out, H2.out.refAt (fun b hb => .inl (HS.out.1 b hb)) HS.out.2.1 HS.out.2.2.1 HS.out.2.2.2 HG2.out.size, HG2.out⟩
  have hbl' : (b.length : Int) ≤ 262144 := by omega
  go_wp2_with fail
  refine (at_any r rf lv es _ p _ H2.out (by omega) (Nat.le_trans (by have := HOK.out; unfold okP at this; exact (of_decide_eq_true this).2) (by decide))).mono ?_; rintro e w3 ⟨rfl, x3⟩
  have H3 := Lib.hid (H2.out.ext x3)
  have HZ3 := Lib.hid (HZ2.out.chg (Chg.of_ext x3 (fun _ => False)) (fun _ _ h => h))
  have HG3 := Lib.hid (HG2.out.trans (Chg.of_ext x3 _))
  have X23 := Lib.hid x3
  clear x3 H2 HZ2 HG2
  obtain ⟨la, lc, hlv⟩ := H3.out.lst.slice
  subst hlv
  have hfl : d.fs.length = es.length := by rw [HFS.out]; exact mapv_length _ _
  obtain ⟨d5, hd5⟩ : ∃ d5, (begins z d [p]).2.2 = d5 := ⟨_, rfl⟩
  have hf5 : d5.fs = d.fs := by rw [← hd5]; exact begins_fs z d [p]
  have hm5 : d5.most = d.most := by rw [← hd5]; exact begins_most z d [p]
  rw [hd5] at H3
  have HD5 := Lib.hid (And.intro hd5 (And.intro hf5 hm5))
  clear hd5 hf5 hm5
  obtain ⟨n, hnn⟩ : ∃ n, es.length = n := ⟨_, rfl⟩
  obtain ⟨t, htt⟩ : ∃ t, tot d.fs = t := ⟨_, rfl⟩
  rw [htt] at ht
  rw [hnn] at hlen hfl
  have HNN := Lib.hid (And.intro hnn (And.intro htt hfl))
  have c0 : w3.cell? ⟨r, 0, none⟩ = some (.slice la n lc) := by rw [← hnn]; exact H3.out.row.cell (i := 0) rfl
  have USED : Hid (∀ W, Ext w3 W → Calls Tryz.prog 103 #[.pointer (some ⟨r, 0, none⟩)] W fun e w' => e = .returned (.int .i64 (t : Nat)) ∧ Ext w3 w' ∧ (w'.cell? ⟨r, 0, none⟩ = some (.slice la n lc))) := Lib.hid fun W hx =>
    (rused_any r rf _ es d5 W (H3.out.ext hx) (by omega) (by rw [HD5.out.2.1, HNN.out.2.1]; exact ht)).mono fun e w' ⟨h1, h2⟩ => by
      subst h2
      rw [HD5.out.2.1, HNN.out.2.1] at h1
      exact ⟨h1, hx, hx.cell c0⟩
  have x0 : Ext w3 w3.drew := Ext.of_drawn w3 1
  have S0 : (fun w' : World => w'.cell? ⟨r, 0, none⟩ = some (.slice la n lc)) w3.drew := x0.cell c0
  clear hnn htt
  cases hx : get p es with
  | none =>
    have HX := Lib.hid hx
    clear hx
    have hqle := pos_le p es
    obtain ⟨i, hq⟩ : ∃ q, pos p es = q := ⟨_, rfl⟩
    have HQ := Lib.hid hq
    rw [hq, HNN.out.1] at hqle
    rw [hq]
    clear hq
    go_wp2_with fail
    go_region_held3 (fun w' : World => w'.cell? ⟨r, 0, none⟩ = some (.slice la n lc)) (assumption) (first | (go_at_call 103; refine (USED.out _ x0).mono ?_; rintro e w4 ⟨rfl, hx4, hS4⟩))
    have H4 := Lib.hid (H3.out.ext hx4)
    have HZ4 := Lib.hid (HZ3.out.chg (Chg.of_ext hx4 (fun _ => False)) (fun _ _ h => h))
    have HG4 := Lib.hid (HG3.out.trans (Chg.of_ext hx4 _))
    have HV4 := Lib.hid (Cells.ext (Cells.ext (Bytes.keep HV.out HGR.out HNB.out) X23.out) hx4)
    have c1 : w4.cell? ⟨r, 1, none⟩ = some (.int .i64 (d.most : Int)) := by rw [← HD5.out.2.2]; exact H4.out.row.cell (i := 1) rfl
    have hmost : d.most ≤ 4194304 := by rw [← HD5.out.2.2]; exact H4.out.nm
    clear x0 S0 USED hS4 hx4 c0
    have e1 : ((t : Nat) : Int) + (b.length : Int) = ((t + b.length : Nat) : Int) := by omega
    obtain ⟨z1, hz1⟩ : ∃ z1, t + b.length = z1 := ⟨_, rfl⟩
    rw [hz1] at e1
    have hzb : z1 ≤ 1099512000000 := by omega
    have hw1 : IntKind.i64.wrap ((z1 : Nat) : Int) = ((z1 : Nat) : Int) := by rw [IntKind.wrap_i64]; omega
    have hw2 : IntKind.i64.wrap ((n : Int) + 1) = (n : Int) + 1 := by rw [IntKind.wrap_i64]; omega
    have hww : writes z d p b = if d.most < z1 ∨ 4096 < n + 1 then (8, (begins z d [p]).2) else (0, (begins z d [p]).2.1, { (begins z d [p]).2.2 with fs := put p ⟨b, false⟩ d.fs }) := by
      have hg : get p d.fs = none := by rw [HFS.out]; unfold rfils; rw [get_mapv, HX.out]; rfl
      unfold writes olen
      rw [HN.out, if_neg (by simp), if_neg hbl, hg, HNN.out.2.1, HNN.out.2.2, hz1]
      rfl
    have HWW := Lib.hid hww
    clear hww
    by_cases hfull : d.most < z1 ∨ 4096 < n + 1
    · have HR := Lib.hid (show writes z d p b = (8, (begins z d [p]).2) by rw [HWW.out, if_pos hfull])
      by_cases hm : d.most < z1
      · have hm1 : (d.most : Int) < (z1 : Int) := by omega
        clear hfull
        go_wp2_with fail
        go_ret
        unfold RefOut
        rw [HR.out]
        exact ⟨rfl, HZ4.out, (show RRaw w4 r rf (.slice la es.length lc) es (begins z d [p]).2.2 by rw [HD5.out.1]; exact H4.out).refAt (fun b hb => .inl (HS.out.1 b hb)) HS.out.2.1 HS.out.2.2.1 HS.out.2.2.2 HG4.out.size, HG4.out⟩
      · have hm1 : (z1 : Int) ≤ (d.most : Int) := by omega
        have hm2 : (4096 : Int) < (n : Int) + 1 := by omega
        clear hfull hm
        go_wp2_with fail
        go_ret
        unfold RefOut
        rw [HR.out]
        exact ⟨rfl, HZ4.out, (show RRaw w4 r rf (.slice la es.length lc) es (begins z d [p]).2.2 by rw [HD5.out.1]; exact H4.out).refAt (fun b hb => .inl (HS.out.1 b hb)) HS.out.2.1 HS.out.2.2.1 HS.out.2.2.2 HG4.out.size, HG4.out⟩
    have hm1 : (z1 : Int) ≤ (d.most : Int) := by omega
    have hm2 : (n : Int) + 1 ≤ 4096 := by omega
    have HR := Lib.hid (show writes z d p b = (0, (begins z d [p]).2.1, { (begins z d [p]).2.2 with fs := put p ⟨b, false⟩ d.fs }) by rw [HWW.out, if_neg hfull])
    have c0 : w4.cell? ⟨r, 0, none⟩ = some (.slice la n lc) := by rw [← HNN.out.1]; exact H4.out.row.cell (i := 0) rfl
    clear hfull
    have HSRC := Lib.hid (Cells.src (P := Tryz.prog) Tryz.underlying24 HV4.out (bvs_one _))
    have hblk : b.length ≤ 262144 := by omega
    have HBL := Lib.hid hblk
    clear hblk
    go_wp2_with (at_builtin; refine list_of_wp rfl fun K hK => wp_appx (B := w4.heap.size) _ _ 24 24 5 (.int .u8 0) 1 rfl Tryz.underlying24 info_b1 rfl rfl (Own.nil _ _ _) rfl HSRC.out (by have := HBL.out; rw [bvs_len]; simp [maxLen]; omega) (by have := HBL.out; rw [bvs_len]; simp; omega) (Nat.le_refl _) b.length (by rw [bvs_len]; simp) fun ad c4 w5 ha => hK _ _ ?_)
    have hx5 : Ext w4 w5 := Ext.grown ha.2.1 (fun k hk => by cases hk)
    have hx6 : Ext w5 (w5.alloc (.cells #[.string (bstr p), .slice ad b.length c4, .bool false] 194)) := (Ext.refl w5).alloc (Nat.le_refl _) _
    have hr6 := Row.new w5 194 #[.string (bstr p), .slice ad b.length c4, .bool false]
    have hU6 := Own.ext ha.1 hx6
    obtain ⟨fb, hfb⟩ : ∃ fb, w5.heap.size = fb := ⟨_, rfl⟩
    obtain ⟨w6, hw6⟩ : ∃ w6, w5.alloc (.cells #[.string (bstr p), .slice ad b.length c4, .bool false] 194) = w6 := ⟨_, rfl⟩
    rw [hw6] at hx6 hr6 hU6
    rw [hfb] at hr6
    have hx46 := Ext.trans hx5 hx6
    have H6 := Lib.hid (H4.out.ext hx46)
    have HZ6 := Lib.hid (HZ4.out.chg (Chg.of_ext hx46 (fun _ => False)) (fun _ _ h => h))
    have HG6 := Lib.hid (HG4.out.trans (Chg.of_ext hx46 _))
    obtain ⟨fx, hfx⟩ : ∃ fx : REnt, fx = ⟨.slice ad b.length c4, ⟨b, false⟩⟩ := ⟨_, rfl⟩
    have HU6 := Lib.hid (show Own w6 0 5 fx.v (bvs fx.f.b) by rw [hfx]; exact (show Own w6 w4.heap.size 5 (.slice ad b.length c4) (bvs b) from hU6).mono (Nat.zero_le _))
    have HUB := Lib.hid (show ∀ k, fx.v.ownBlock = some k → w.heap.size ≤ k by
      rw [hfx]
      exact fun k hk => Nat.le_trans HG4.out.size ((show Own w6 w4.heap.size 5 (.slice ad b.length c4) (bvs b) from hU6).block k hk))
    have HFX := Lib.hid (show fx.v.oneCell' = true by rw [hfx]; rfl)
    have HFXE := Lib.hid hfx
    have HFV := Lib.hid (show fx.v = .slice ad b.length c4 ∧ fx.f.sure = false by rw [hfx]; exact ⟨rfl, rfl⟩)
    have f0 := hr6.cell (i := 0) (v := .string (bstr p)) rfl
    have f1 := hr6.cell (i := 1) (v := .slice ad b.length c4) rfl
    have f2 := hr6.cell (i := 2) (v := .bool false) rfl
    have hfl6 := hr6.lt
    have hrl := H6.out.row.lt
    have u0 := H6.out.row.unfrozen 0
    replace c0 := hx46.cell c0
    rw [hw6, hfb]
    clear ha hx5 hx6 hx46 hr6 hU6 hw6 hfb c1 hfx
    have hput : es.take i ++ (p, fx) :: es.drop i = put p fx es := by
      rw [(placed p H4.out.up).2.1 fx]
      unfold Dk.one
      rw [HX.out, HQ.out]; rfl
    have HPUT := Lib.hid hput
    have HUP := Lib.hid (show Up (es.take i ++ (p, fx) :: es.drop i) by rw [hput]; exact put_up H4.out.up)
    have HFI : Hid (∀ w', Chg (fun b => w6.heap.size ≤ b) w6 w' → ∀ e ∈ es.take i ++ (p, fx) :: es.drop i, Own w' 0 5 e.2.v (bvs e.2.f.b)) := Lib.hid fun w' hc e he => by
      rw [HPUT.out] at he
      rcases mem_put.1 he with rfl | ⟨he, -⟩
      · exact HU6.out.chg hc fun b hb hk => by have := HU6.out.lt hb; omega
      · exact (H6.out.file e he).chg hc fun b hb hk => by have := (H6.out.file e he).lt hb; omega
    have HPP : Hid (∀ e ∈ es.take i ++ (p, fx) :: es.drop i, e.1.length ≤ 600) := Lib.hid fun e he => by
      rw [HPUT.out] at he
      rcases mem_put.1 he with rfl | ⟨he, -⟩
      · have := HOK.out; unfold okP at this; exact (of_decide_eq_true this).2
      · exact H6.out.pl e he
    clear hput
    have HNN1 := Lib.hid HNN.out.1
    have FINR : Hid (∀ w8, (∃ lv', RRaw w8 r rf lv' (es.take i ++ (p, fx) :: es.drop i) { d5 with fs := rfils (es.take i ++ (p, fx) :: es.drop i) } ∧ ∀ b, lv'.ownBlock = some b → w6.heap.size ≤ b) ∧ Chg (fun b => b = r) w6 w8 → RefOut r rf S w (writes z d p b) (.returned (.int .i64 0)) w8) := Lib.hid fun w8 ⟨⟨lv', h8, hfr⟩, hc8⟩ => by
      have hz8 := HZ6.out.chg hc8 fun b hb e => HS.out.2.2.1 b hb (by rw [e]; exact HS.out.1 r (.inl rfl))
      have hg8 := HG6.out.trans (hc8.mono fun b _ hb => by rw [hb]; exact .inl (HS.out.1 r (.inl rfl)))
      rw [HPUT.out, show rfils (put p fx es) = put p ⟨b, false⟩ d.fs by rw [HFS.out, show (⟨b, false⟩ : Fil) = fx.f by rw [HFXE.out]]; exact (put_mapv (fun y : REnt => y.f) p fx es).symm] at h8
      unfold RefOut
      rw [HR.out, HD5.out.1]
      refine ⟨rfl, hz8, h8.refAt (fun b hb => ?_) HS.out.2.1 HS.out.2.2.1 HS.out.2.2.2 hg8.size, hg8⟩
      rcases hb with hb | hb | ⟨e, he, hb⟩
      · exact .inl (HS.out.1 b (.inl hb))
      · exact .inr ⟨Nat.le_trans HG6.out.size (hfr b hb), h8.lst.lt hb⟩
      · rcases mem_put.1 he with rfl | ⟨he, -⟩
        · exact .inr ⟨HUB.out b hb, (h8.file _ (mem_put.2 (.inl rfl))).lt hb⟩
        · exact .inl (HS.out.1 b (.inr (.inr ⟨e, he, hb⟩)))
    rcases H6.out.lst.forms.2 with ⟨hlv, hn0, -⟩ | ⟨g, cap, cur, hlv, -, -, hcap, -⟩
    · simp only [Value.slice.injEq] at hlv
      obtain ⟨rfl, -, rfl⟩ := hlv
      have hn1 : n = 0 := by rw [← HNN1.out]; exact hn0
      subst hn1
      obtain rfl : i = 0 := by omega
      have SRC1 : Hid (∀ w', Chg (fun b => w6.heap.size ≤ b) w6 w' → Src Tryz.prog 3 190 (.slice none 0 0) 0 (rcells (es.take 0)) w') := Lib.hid fun w' hc => H6.out.src1 0 (Nat.zero_le _) w' hc
      have SRC2 : Hid (∀ w', Chg (fun b => w6.heap.size ≤ b) w6 w' → Src Tryz.prog 3 190 (.slice none 0 0) (0 - 0) (rcells (es.drop 0)) w') := Lib.hid fun w' hc => by
        have he : es = [] := List.eq_nil_of_length_eq_zero HNN1.out
        rw [he]
        exact Src.ofNil w' Tryz.underlying190 0
      have NL1 : Hid ((rcells (es.take 0)).length = 0 * 3) := Lib.hid (by rw [rcells_length, List.length_take, HNN1.out]; rfl)
      have NL2 : Hid ((rcells (es.drop 0)).length = (0 - 0) * 3) := Lib.hid (by rw [rcells_length, List.length_drop, HNN1.out])
      have hS : (fun w' : World => w'.cell? ⟨r, 0, none⟩ = some (.slice none 0 0) ∧ w'.cell? ⟨fb, 0, none⟩ = some (.string (bstr p)) ∧ w'.cell? ⟨fb, 1, none⟩ = some (.slice ad b.length c4) ∧ w'.cell? ⟨fb, 2, none⟩ = some (.bool false)) w6.drew := ⟨c0, f0, f1, f2⟩
      have HNN := HNN1
      refine wp_cut [76, 77, 78, 79, 80, 81, 82, 83, 84, 85, 86, 87, 88, 89, 90, 91, 92, 93, 94, 95] (fun w8 => (∃ lv', RRaw w8 r rf lv' (es.take 0 ++ (p, fx) :: es.drop 0) { d5 with fs := rfils (es.take 0 ++ (p, fx) :: es.drop 0) } ∧ ∀ b, lv'.ownBlock = some b → w6.heap.size ≤ b) ∧ Chg (fun b => b = r) w6 w8) ?_ ?_
      · refine wp_region_U (fun w' : World => w'.cell? ⟨r, 0, none⟩ = some (.slice none 0 0) ∧ w'.cell? ⟨fb, 0, none⟩ = some (.string (bstr p)) ∧ w'.cell? ⟨fb, 1, none⟩ = some (.slice ad b.length c4) ∧ w'.cell? ⟨fb, 2, none⟩ = some (.bool false)) 20 (by kernel_rfl) ?_
        refine wpU_pureH (i := 0) (j := 76) (v := ?_) rfl rfl (by kernel_rfl) (by kernel_rfl) (by kernel_rfl) (by decide) (fun _ _ _ h => h) (fun _ => hS) (Or.inl ⟨by kernel_rfl, fun _ _ => ?_⟩) ?_
        rotate_left
        · go_simp
          try with_reducible rfl
        refine wpU_pureH (i := 1) (j := 77) (v := ?_) rfl rfl (by kernel_rfl) (by kernel_rfl) (by kernel_rfl) (by decide) (fun _ _ _ h => h) (fun _ => hS) (Or.inl ⟨by kernel_rfl, fun _ _ => ?_⟩) ?_
        rotate_left
        · go_simp
          try with_reducible rfl
        refine wpU_pureH (i := 2) (j := 78) (v := ?_) rfl rfl (by kernel_rfl) (by kernel_rfl) (by kernel_rfl) (by decide) (fun _ _ _ h => h) (fun _ => hS) (Or.inl ⟨by kernel_rfl, fun _ _ => ?_⟩) ?_
        rotate_left
        · go_simp
          try with_reducible rfl
        refine wpU_pureH (i := 3) (j := 79) (v := ?_) rfl rfl (by kernel_rfl) (by kernel_rfl) (by kernel_rfl) (by decide) (fun _ _ _ h => h) (fun _ => hS) (Or.inl ⟨by kernel_rfl, fun _ _ => ?_⟩) ?_
        rotate_left
        · go_simp
          try with_reducible rfl
        refine wpU_loadH (i := 4) (j := 80) (v := ?_) rfl rfl (by kernel_rfl) (by kernel_rfl) (by kernel_rfl) (by decide) (by kernel_rfl) (by kernel_rfl) (fun _ _ _ h => h) hS (Or.inl ⟨by kernel_rfl, fun wl hl => ?_⟩) ?_
        rotate_left
        · obtain ⟨l0, l1, l2, l3⟩ := hl
          go_simp
          try with_reducible rfl
        refine wpU_pureH (i := 5) (j := 81) (v := ?_) rfl rfl (by kernel_rfl) (by kernel_rfl) (by kernel_rfl) (by decide) (fun _ _ _ h => h) (fun _ => hS) (Or.inl ⟨by kernel_rfl, fun _ _ => ?_⟩) ?_
        rotate_left
        · go_simp
          try with_reducible rfl
        refine wpU_pureH (i := 6) (j := 82) (v := ?_) rfl rfl (by kernel_rfl) (by kernel_rfl) (by kernel_rfl) (by decide) (fun _ _ _ h => h) (fun _ => hS) (Or.inl ⟨by kernel_rfl, fun _ _ => ?_⟩) ?_
        rotate_left
        · go_simp
          try with_reducible rfl
        refine wpU_loadH (i := 8) (j := 84) (v := ?_) rfl rfl (by kernel_rfl) (by kernel_rfl) (by kernel_rfl) (by decide) (by kernel_rfl) (by kernel_rfl) (fun _ _ _ h => h) hS (Or.inl ⟨by kernel_rfl, fun wl hl => ?_⟩) ?_
        rotate_left
        · obtain ⟨l0, l1, l2, l3⟩ := hl
          go_simp
          try with_reducible rfl
        refine wpU_pureH (i := 11) (j := 87) (v := ?_) rfl rfl (by kernel_rfl) (by kernel_rfl) (by kernel_rfl) (by decide) (fun _ _ _ h => h) (fun _ => hS) (Or.inl ⟨by kernel_rfl, fun _ _ => ?_⟩) ?_
        rotate_left
        · go_simp
          try with_reducible rfl
        refine wpU_pureH (i := 12) (j := 88) (v := ?_) rfl rfl (by kernel_rfl) (by kernel_rfl) (by kernel_rfl) (by decide) (fun _ _ _ h => h) (fun _ => hS) (Or.inl ⟨by kernel_rfl, fun _ _ => ?_⟩) ?_
        rotate_left
        · go_simp
          try with_reducible rfl
        refine wpU_pureH (i := 13) (j := 89) (v := ?_) rfl rfl (by kernel_rfl) (by kernel_rfl) (by kernel_rfl) (by decide) (fun _ _ _ h => h) (fun _ => hS) (Or.inl ⟨by kernel_rfl, fun _ _ => ?_⟩) ?_
        rotate_left
        · go_simp
          try with_reducible rfl
        refine wpU_loadH (i := 14) (j := 90) (v := ?_) rfl rfl (by kernel_rfl) (by kernel_rfl) (by kernel_rfl) (by decide) (by kernel_rfl) (by kernel_rfl) (fun _ _ _ h => h) hS (Or.inl ⟨by kernel_rfl, fun wl hl => ?_⟩) ?_
        rotate_left
        · obtain ⟨l0, l1, l2, l3⟩ := hl
          go_simp
          try with_reducible rfl
        refine wpU_pureH (i := 15) (j := 91) (v := ?_) rfl rfl (by kernel_rfl) (by kernel_rfl) (by kernel_rfl) (by decide) (fun _ _ _ h => h) (fun _ => hS) (Or.inl ⟨by kernel_rfl, fun _ _ => ?_⟩) ?_
        rotate_left
        · go_simp
          try with_reducible rfl
        refine wpU_pureH (i := 16) (j := 92) (v := ?_) rfl rfl (by kernel_rfl) (by kernel_rfl) (by kernel_rfl) (by decide) (fun _ _ _ h => h) (fun _ => hS) (Or.inl ⟨by kernel_rfl, fun _ _ => ?_⟩) ?_
        rotate_left
        · go_simp
          try with_reducible rfl
        refine wpU_all [7, 9] (by kernel_rfl) (by simp) ?_
        refine ReadyU.cons rfl (fun K hK => ?_) (ReadyU.cons rfl (fun K hK => ?_) ReadyU.nil)
        · have HB := Lib.hid (Chg.of_ext (Ext.of_drawn w6 1) (fun b => w6.heap.size ≤ b))
          refine step_of_wp rfl (wp_appk (B := w6.heap.size) _ _ 190 190 194 zrf 3 48 rfl Tryz.underlying190 info_rf rfl rfl (OwnK.nil _ _ _ _) (by go_simp) (SRC1.out _ HB.out) (by rw [NL1.out]) (by unfold maxLen; omega) (by omega) HB.out.size fun a1 k1 w7 ha => ?_)
          have hc7 := HB.out.trans ((Chg.refl (fun b => w6.heap.size ≤ b) _).grown ha.2.1 (fun k hk => by cases hk))
          have hS : (fun w' : World => w'.cell? ⟨r, 0, none⟩ = some (.slice none 0 0) ∧ w'.cell? ⟨fb, 0, none⟩ = some (.string (bstr p)) ∧ w'.cell? ⟨fb, 1, none⟩ = some (.slice ad b.length c4) ∧ w'.cell? ⟨fb, 2, none⟩ = some (.bool false)) w7 := ⟨hc7.cell c0 (show ¬ w6.heap.size ≤ r by omega), hc7.cell f0 (show ¬ w6.heap.size ≤ fb by omega), hc7.cell f1 (show ¬ w6.heap.size ≤ fb by omega), hc7.cell f2 (show ¬ w6.heap.size ≤ fb by omega)⟩
          refine hK.out _ _ (fun _ => hS) ?_
          refine wpU_putH (j := 83) rfl ?_
          clear hK K
          have HA1 := Lib.hid (And.intro ha.1 hc7)
          clear ha hc7
          refine wpU_all [9] (by kernel_rfl) (by simp) ?_
          refine ReadyU.cons rfl (fun K hK => ?_) ReadyU.nil
          have hc8 := HA1.out.2.alloc (.cells #[.string (bstr p), .slice ad b.length c4, .bool false] 194)
          have hS : (fun w' : World => w'.cell? ⟨r, 0, none⟩ = some (.slice none 0 0) ∧ w'.cell? ⟨fb, 0, none⟩ = some (.string (bstr p)) ∧ w'.cell? ⟨fb, 1, none⟩ = some (.slice ad b.length c4) ∧ w'.cell? ⟨fb, 2, none⟩ = some (.bool false)) (w7.alloc (.cells #[.string (bstr p), .slice ad b.length c4, .bool false] 194)) := ⟨hc8.cell c0 (show ¬ w6.heap.size ≤ r by omega), hc8.cell f0 (show ¬ w6.heap.size ≤ fb by omega), hc8.cell f1 (show ¬ w6.heap.size ≤ fb by omega), hc8.cell f2 (show ¬ w6.heap.size ≤ fb by omega)⟩
          have hq := one_src w7 p fx HFX.out _ (Chg.refl _ _)
          rw [HFV.out.1, HFV.out.2] at hq
          have HA := Lib.hid (And.intro (HA1.out.1.ext ((Ext.refl w7).alloc (Nat.le_refl _) (.cells #[.string (bstr p), .slice ad b.length c4, .bool false] 194))) (And.intro hq hc8))
          simp only [List.set_cons_zero, List.set_cons_succ]
          go_simp
          refine hK.out _ _ (fun _ => hS) ?_
          clear hK K hc8 hq
          refine wpU_all [10] (by kernel_rfl) (by simp) ?_
          refine ReadyU.cons rfl (fun K hK => ?_) ReadyU.nil
          refine step_of_wp rfl (wp_appk (B := w6.heap.size) _ _ 190 190 194 zrf 3 48 rfl Tryz.underlying190 info_rf rfl (by go_simp) HA.out.1 (by go_simp) HA.out.2.1 (by rfl) (by unfold maxLen; omega) (by omega) HA.out.2.2.size fun a2 k2 w9 ha => ?_)
          have hc9 : Chg (fun b => w6.heap.size ≤ b) w6 w9 := HA.out.2.2.trans ((Chg.refl (fun b => w6.heap.size ≤ b) _).grown ha.2.1 (fun k hk => .inl (HA.out.1.block k hk)))
          have hS : (fun w' : World => w'.cell? ⟨r, 0, none⟩ = some (.slice none 0 0) ∧ w'.cell? ⟨fb, 0, none⟩ = some (.string (bstr p)) ∧ w'.cell? ⟨fb, 1, none⟩ = some (.slice ad b.length c4) ∧ w'.cell? ⟨fb, 2, none⟩ = some (.bool false)) w9 := ⟨hc9.cell c0 (show ¬ w6.heap.size ≤ r by omega), hc9.cell f0 (show ¬ w6.heap.size ≤ fb by omega), hc9.cell f1 (show ¬ w6.heap.size ≤ fb by omega), hc9.cell f2 (show ¬ w6.heap.size ≤ fb by omega)⟩
          refine hK.out _ _ (fun _ => hS) ?_
          refine wpU_putH (j := 86) rfl ?_
          clear hK K
          have HA2 := Lib.hid (And.intro ha.1 hc9)
          clear ha hc9
          refine wpU_all [17] (by kernel_rfl) (by simp) ?_
          refine ReadyU.cons rfl (fun K hK => ?_) ReadyU.nil
          refine step_of_wp rfl (wp_appk (B := w6.heap.size) _ _ 190 190 194 zrf 3 48 rfl Tryz.underlying190 info_rf rfl (by go_simp) HA2.out.1 (by go_simp) (SRC2.out _ HA2.out.2) (by rw [NL2.out]) (by unfold maxLen; omega) (by omega) HA2.out.2.size fun a3 k3 wa ha => ?_)
          have hca : Chg (fun b => w6.heap.size ≤ b) w6 wa := HA2.out.2.trans ((Chg.refl (fun b => w6.heap.size ≤ b) _).grown ha.2.1 (fun k hk => .inl (HA2.out.1.block k hk)))
          have hS : (fun w' : World => w'.cell? ⟨r, 0, none⟩ = some (.slice none 0 0) ∧ w'.cell? ⟨fb, 0, none⟩ = some (.string (bstr p)) ∧ w'.cell? ⟨fb, 1, none⟩ = some (.slice ad b.length c4) ∧ w'.cell? ⟨fb, 2, none⟩ = some (.bool false)) wa := ⟨hca.cell c0 (show ¬ w6.heap.size ≤ r by omega), hca.cell f0 (show ¬ w6.heap.size ≤ fb by omega), hca.cell f1 (show ¬ w6.heap.size ≤ fb by omega), hca.cell f2 (show ¬ w6.heap.size ≤ fb by omega)⟩
          have ua := hca.unfrozen c0 u0 (show ¬ w6.heap.size ≤ r by omega)
          refine hK.out _ _ (fun _ => hS) ?_
          refine wpU_putH (j := 93) rfl ?_
          clear hK K
          have hll : (es.take 0 ++ (p, fx) :: es.drop 0).length = 0 + 0 + 1 + (0 - 0) := by  rw [List.length_append, List.length_cons, List.length_take, List.length_drop, HNN.out]; omega
          have ho := ha.1
          have ecs : (([] ++ rcells (List.take 0 es)) ++ rc (p, fx)) ++ rcells (List.drop 0 es) = rcells (es.take 0 ++ (p, fx) :: es.drop 0) := by  rw [List.nil_append, rcells_append, rcells_cons, List.append_assoc]
          rw [ecs, ← hll] at ho
          have FIN := H6.out.relist hca ho HUP.out (HFI.out _ hca) HPP.out
          rw [Nat.zero_add] at hll
          rw [hll] at FIN
          have FIN := Lib.hid FIN
          clear ha hca ho ecs hll
          refine wpU_pureH (i := 18) (j := 94) (v := ?_) rfl rfl (by kernel_rfl) (by kernel_rfl) (by kernel_rfl) (by decide) (fun _ _ _ h => h) (fun _ => hS) (Or.inl ⟨by kernel_rfl, fun _ _ => ?_⟩) ?_
          rotate_left
          · go_simp
            try with_reducible rfl
          refine wpU_pureH (i := 19) (j := 95) (v := ?_) rfl rfl (by kernel_rfl) (by kernel_rfl) (by kernel_rfl) (by decide) (fun _ _ _ h => h) (fun _ => hS) (Or.inl ⟨by kernel_rfl, fun _ _ => ?_⟩) ?_
          rotate_left
          · go_simp
            try with_reducible rfl
          refine wpU_all [20] (by kernel_rfl) (by simp) ?_
          refine ReadyU.cons rfl (fun K hK => ?_) ReadyU.nil
          simp only [List.set_cons_zero, List.set_cons_succ]
          go_simp
          refine hK.out _ _ (fun h => Bool.noConfusion (show true = false from h)) ?_
          clear hK K
          refine wpU_done (by kernel_rfl) ?_ _
          exact cut_end ⟨⟨_, FIN.out.1, FIN.out.2.1⟩, FIN.out.2.2⟩ (by kernel_rfl)
        · have hc8 := (Chg.of_ext (Ext.of_drawn w6 1) (fun b => w6.heap.size ≤ b)).alloc (.cells #[.string (bstr p), .slice ad b.length c4, .bool false] 194)
          have hS : (fun w' : World => w'.cell? ⟨r, 0, none⟩ = some (.slice none 0 0) ∧ w'.cell? ⟨fb, 0, none⟩ = some (.string (bstr p)) ∧ w'.cell? ⟨fb, 1, none⟩ = some (.slice ad b.length c4) ∧ w'.cell? ⟨fb, 2, none⟩ = some (.bool false)) (w6.drew.alloc (.cells #[.string (bstr p), .slice ad b.length c4, .bool false] 194)) := ⟨hc8.cell c0 (show ¬ w6.heap.size ≤ r by omega), hc8.cell f0 (show ¬ w6.heap.size ≤ fb by omega), hc8.cell f1 (show ¬ w6.heap.size ≤ fb by omega), hc8.cell f2 (show ¬ w6.heap.size ≤ fb by omega)⟩
          have hq := one_src w6.drew p fx HFX.out
          rw [HFV.out.1, HFV.out.2] at hq
          simp only [List.set_cons_zero, List.set_cons_succ]
          go_simp
          refine hK.out _ _ (fun _ => hS) ?_
          have HB := Lib.hid hc8
          have HQ := Lib.hid hq
          clear hK K hc8 hq
          refine wpU_all [7] (by kernel_rfl) (by simp) ?_
          refine ReadyU.cons rfl (fun K hK => ?_) ReadyU.nil
          refine step_of_wp rfl (wp_appk (B := w6.heap.size) _ _ 190 190 194 zrf 3 48 rfl Tryz.underlying190 info_rf rfl rfl (OwnK.nil _ _ _ _) (by go_simp) (SRC1.out _ HB.out) (by rw [NL1.out]) (by unfold maxLen; omega) (by omega) HB.out.size fun a1 k1 w7 ha => ?_)
          have hc7 := HB.out.trans ((Chg.refl (fun b => w6.heap.size ≤ b) _).grown ha.2.1 (fun k hk => by cases hk))
          have hS : (fun w' : World => w'.cell? ⟨r, 0, none⟩ = some (.slice none 0 0) ∧ w'.cell? ⟨fb, 0, none⟩ = some (.string (bstr p)) ∧ w'.cell? ⟨fb, 1, none⟩ = some (.slice ad b.length c4) ∧ w'.cell? ⟨fb, 2, none⟩ = some (.bool false)) w7 := ⟨hc7.cell c0 (show ¬ w6.heap.size ≤ r by omega), hc7.cell f0 (show ¬ w6.heap.size ≤ fb by omega), hc7.cell f1 (show ¬ w6.heap.size ≤ fb by omega), hc7.cell f2 (show ¬ w6.heap.size ≤ fb by omega)⟩
          refine hK.out _ _ (fun _ => hS) ?_
          refine wpU_putH (j := 83) rfl ?_
          clear hK K
          have HA := Lib.hid (And.intro ha.1 (And.intro (HQ.out w7 ((Chg.refl _ _).grown ha.2.1 (fun k hk => by cases hk))) hc7))
          clear ha hc7
          refine wpU_all [10] (by kernel_rfl) (by simp) ?_
          refine ReadyU.cons rfl (fun K hK => ?_) ReadyU.nil
          refine step_of_wp rfl (wp_appk (B := w6.heap.size) _ _ 190 190 194 zrf 3 48 rfl Tryz.underlying190 info_rf rfl (by go_simp) HA.out.1 (by go_simp) HA.out.2.1 (by rfl) (by unfold maxLen; omega) (by omega) HA.out.2.2.size fun a2 k2 w9 ha => ?_)
          have hc9 : Chg (fun b => w6.heap.size ≤ b) w6 w9 := HA.out.2.2.trans ((Chg.refl (fun b => w6.heap.size ≤ b) _).grown ha.2.1 (fun k hk => .inl (HA.out.1.block k hk)))
          have hS : (fun w' : World => w'.cell? ⟨r, 0, none⟩ = some (.slice none 0 0) ∧ w'.cell? ⟨fb, 0, none⟩ = some (.string (bstr p)) ∧ w'.cell? ⟨fb, 1, none⟩ = some (.slice ad b.length c4) ∧ w'.cell? ⟨fb, 2, none⟩ = some (.bool false)) w9 := ⟨hc9.cell c0 (show ¬ w6.heap.size ≤ r by omega), hc9.cell f0 (show ¬ w6.heap.size ≤ fb by omega), hc9.cell f1 (show ¬ w6.heap.size ≤ fb by omega), hc9.cell f2 (show ¬ w6.heap.size ≤ fb by omega)⟩
          refine hK.out _ _ (fun _ => hS) ?_
          refine wpU_putH (j := 86) rfl ?_
          clear hK K
          have HA2 := Lib.hid (And.intro ha.1 hc9)
          clear ha hc9
          refine wpU_all [17] (by kernel_rfl) (by simp) ?_
          refine ReadyU.cons rfl (fun K hK => ?_) ReadyU.nil
          refine step_of_wp rfl (wp_appk (B := w6.heap.size) _ _ 190 190 194 zrf 3 48 rfl Tryz.underlying190 info_rf rfl (by go_simp) HA2.out.1 (by go_simp) (SRC2.out _ HA2.out.2) (by rw [NL2.out]) (by unfold maxLen; omega) (by omega) HA2.out.2.size fun a3 k3 wa ha => ?_)
          have hca : Chg (fun b => w6.heap.size ≤ b) w6 wa := HA2.out.2.trans ((Chg.refl (fun b => w6.heap.size ≤ b) _).grown ha.2.1 (fun k hk => .inl (HA2.out.1.block k hk)))
          have hS : (fun w' : World => w'.cell? ⟨r, 0, none⟩ = some (.slice none 0 0) ∧ w'.cell? ⟨fb, 0, none⟩ = some (.string (bstr p)) ∧ w'.cell? ⟨fb, 1, none⟩ = some (.slice ad b.length c4) ∧ w'.cell? ⟨fb, 2, none⟩ = some (.bool false)) wa := ⟨hca.cell c0 (show ¬ w6.heap.size ≤ r by omega), hca.cell f0 (show ¬ w6.heap.size ≤ fb by omega), hca.cell f1 (show ¬ w6.heap.size ≤ fb by omega), hca.cell f2 (show ¬ w6.heap.size ≤ fb by omega)⟩
          have ua := hca.unfrozen c0 u0 (show ¬ w6.heap.size ≤ r by omega)
          refine hK.out _ _ (fun _ => hS) ?_
          refine wpU_putH (j := 93) rfl ?_
          clear hK K
          have hll : (es.take 0 ++ (p, fx) :: es.drop 0).length = 0 + 0 + 1 + (0 - 0) := by  rw [List.length_append, List.length_cons, List.length_take, List.length_drop, HNN.out]; omega
          have ho := ha.1
          have ecs : (([] ++ rcells (List.take 0 es)) ++ rc (p, fx)) ++ rcells (List.drop 0 es) = rcells (es.take 0 ++ (p, fx) :: es.drop 0) := by  rw [List.nil_append, rcells_append, rcells_cons, List.append_assoc]
          rw [ecs, ← hll] at ho
          have FIN := H6.out.relist hca ho HUP.out (HFI.out _ hca) HPP.out
          rw [Nat.zero_add] at hll
          rw [hll] at FIN
          have FIN := Lib.hid FIN
          clear ha hca ho ecs hll
          refine wpU_pureH (i := 18) (j := 94) (v := ?_) rfl rfl (by kernel_rfl) (by kernel_rfl) (by kernel_rfl) (by decide) (fun _ _ _ h => h) (fun _ => hS) (Or.inl ⟨by kernel_rfl, fun _ _ => ?_⟩) ?_
          rotate_left
          · go_simp
            try with_reducible rfl
          refine wpU_pureH (i := 19) (j := 95) (v := ?_) rfl rfl (by kernel_rfl) (by kernel_rfl) (by kernel_rfl) (by decide) (fun _ _ _ h => h) (fun _ => hS) (Or.inl ⟨by kernel_rfl, fun _ _ => ?_⟩) ?_
          rotate_left
          · go_simp
            try with_reducible rfl
          refine wpU_all [20] (by kernel_rfl) (by simp) ?_
          refine ReadyU.cons rfl (fun K hK => ?_) ReadyU.nil
          simp only [List.set_cons_zero, List.set_cons_succ]
          go_simp
          refine hK.out _ _ (fun h => Bool.noConfusion (show true = false from h)) ?_
          clear hK K
          refine wpU_done (by kernel_rfl) ?_ _
          exact cut_end ⟨⟨_, FIN.out.1, FIN.out.2.1⟩, FIN.out.2.2⟩ (by kernel_rfl)
      · intro us w8 h8
        have H8 := Lib.hid (FINR.out w8 h8)
        clear h8 hS c0 f0 f1 f2 u0
        simp only [setAll, List.foldl_cons, List.foldl_nil, List.set_cons_zero, List.set_cons_succ]
        go_wp2_with fail
        go_ret
        exact H8.out
    · simp only [Value.slice.injEq] at hlv
      obtain ⟨rfl, -, rfl⟩ := hlv
      rw [HNN1.out] at hcap
      have SRC1 : Hid (∀ w', Chg (fun b => w6.heap.size ≤ b) w6 w' → Src Tryz.prog 3 190 (.slice (some ⟨g, 0, none⟩) i lc) i (rcells (es.take i)) w') := Lib.hid fun w' hc => H6.out.src1 i (by rw [HNN1.out]; exact hqle) w' hc
      obtain ⟨ad3, had⟩ : ∃ ad : Option Addr, (if lc = i then some ⟨g, 0, none⟩ else some ⟨g, i * 3, none⟩) = ad := ⟨_, rfl⟩
      have SRC2 : Hid (∀ w', Chg (fun b => w6.heap.size ≤ b) w6 w' → Src Tryz.prog 3 190 (.slice ad3 (n - i) (lc - i)) (n - i) (rcells (es.drop i)) w') := Lib.hid fun w' hc => by
        have h1 := H6.out.src2 i (by rw [HNN1.out]; exact hqle) (by rw [HNN1.out]; exact hcap) w' hc
        rw [had, HNN1.out] at h1
        exact h1
      have NL1 : Hid ((rcells (es.take i)).length = i * 3) := Lib.hid (by rw [rcells_length, List.length_take, HNN1.out]; congr 1; omega)
      have NL2 : Hid ((rcells (es.drop i)).length = (n - i) * 3) := Lib.hid (by rw [rcells_length, List.length_drop, HNN1.out])
      have hic : i ≤ lc := by omega
      have hi1 : (i : Int) ≤ (n : Int) := by omega
      have hi2 : (i : Int) ≤ (lc : Int) := by omega
      have hS : (fun w' : World => w'.cell? ⟨r, 0, none⟩ = some (.slice (some ⟨g, 0, none⟩) n lc) ∧ w'.cell? ⟨fb, 0, none⟩ = some (.string (bstr p)) ∧ w'.cell? ⟨fb, 1, none⟩ = some (.slice ad b.length c4) ∧ w'.cell? ⟨fb, 2, none⟩ = some (.bool false)) w6.drew := ⟨c0, f0, f1, f2⟩
      have HNN := HNN1
      refine wp_cut [76, 77, 78, 79, 80, 81, 82, 83, 84, 85, 86, 87, 88, 89, 90, 91, 92, 93, 94, 95] (fun w8 => (∃ lv', RRaw w8 r rf lv' (es.take i ++ (p, fx) :: es.drop i) { d5 with fs := rfils (es.take i ++ (p, fx) :: es.drop i) } ∧ ∀ b, lv'.ownBlock = some b → w6.heap.size ≤ b) ∧ Chg (fun b => b = r) w6 w8) ?_ ?_
      · refine wp_region_U (fun w' : World => w'.cell? ⟨r, 0, none⟩ = some (.slice (some ⟨g, 0, none⟩) n lc) ∧ w'.cell? ⟨fb, 0, none⟩ = some (.string (bstr p)) ∧ w'.cell? ⟨fb, 1, none⟩ = some (.slice ad b.length c4) ∧ w'.cell? ⟨fb, 2, none⟩ = some (.bool false)) 20 (by kernel_rfl) ?_
        refine wpU_pureH (i := 0) (j := 76) (v := ?_) rfl rfl (by kernel_rfl) (by kernel_rfl) (by kernel_rfl) (by decide) (fun _ _ _ h => h) (fun _ => hS) (Or.inl ⟨by kernel_rfl, fun _ _ => ?_⟩) ?_
        rotate_left
        · go_simp
          try with_reducible rfl
        refine wpU_pureH (i := 1) (j := 77) (v := ?_) rfl rfl (by kernel_rfl) (by kernel_rfl) (by kernel_rfl) (by decide) (fun _ _ _ h => h) (fun _ => hS) (Or.inl ⟨by kernel_rfl, fun _ _ => ?_⟩) ?_
        rotate_left
        · go_simp
          try with_reducible rfl
        refine wpU_pureH (i := 2) (j := 78) (v := ?_) rfl rfl (by kernel_rfl) (by kernel_rfl) (by kernel_rfl) (by decide) (fun _ _ _ h => h) (fun _ => hS) (Or.inl ⟨by kernel_rfl, fun _ _ => ?_⟩) ?_
        rotate_left
        · go_simp
          try with_reducible rfl
        refine wpU_pureH (i := 3) (j := 79) (v := ?_) rfl rfl (by kernel_rfl) (by kernel_rfl) (by kernel_rfl) (by decide) (fun _ _ _ h => h) (fun _ => hS) (Or.inl ⟨by kernel_rfl, fun _ _ => ?_⟩) ?_
        rotate_left
        · go_simp
          try with_reducible rfl
        refine wpU_loadH (i := 4) (j := 80) (v := ?_) rfl rfl (by kernel_rfl) (by kernel_rfl) (by kernel_rfl) (by decide) (by kernel_rfl) (by kernel_rfl) (fun _ _ _ h => h) hS (Or.inl ⟨by kernel_rfl, fun wl hl => ?_⟩) ?_
        rotate_left
        · obtain ⟨l0, l1, l2, l3⟩ := hl
          go_simp
          try with_reducible rfl
        refine wpU_pureH (i := 5) (j := 81) (v := ?_) rfl rfl (by kernel_rfl) (by kernel_rfl) (by kernel_rfl) (by decide) (fun _ _ _ h => h) (fun _ => hS) (Or.inl ⟨by kernel_rfl, fun _ _ => ?_⟩) ?_
        rotate_left
        · go_simp
          try with_reducible rfl
        refine wpU_pureH (i := 6) (j := 82) (v := ?_) rfl rfl (by kernel_rfl) (by kernel_rfl) (by kernel_rfl) (by decide) (fun _ _ _ h => h) (fun _ => hS) (Or.inl ⟨by kernel_rfl, fun _ _ => ?_⟩) ?_
        rotate_left
        · go_simp
          try with_reducible rfl
        refine wpU_loadH (i := 8) (j := 84) (v := ?_) rfl rfl (by kernel_rfl) (by kernel_rfl) (by kernel_rfl) (by decide) (by kernel_rfl) (by kernel_rfl) (fun _ _ _ h => h) hS (Or.inl ⟨by kernel_rfl, fun wl hl => ?_⟩) ?_
        rotate_left
        · obtain ⟨l0, l1, l2, l3⟩ := hl
          go_simp
          try with_reducible rfl
        refine wpU_pureH (i := 11) (j := 87) (v := ?_) rfl rfl (by kernel_rfl) (by kernel_rfl) (by kernel_rfl) (by decide) (fun _ _ _ h => h) (fun _ => hS) (Or.inl ⟨by kernel_rfl, fun _ _ => ?_⟩) ?_
        rotate_left
        · go_simp
          try with_reducible rfl
        refine wpU_pureH (i := 12) (j := 88) (v := ?_) rfl rfl (by kernel_rfl) (by kernel_rfl) (by kernel_rfl) (by decide) (fun _ _ _ h => h) (fun _ => hS) (Or.inl ⟨by kernel_rfl, fun _ _ => ?_⟩) ?_
        rotate_left
        · go_simp
          try with_reducible rfl
        refine wpU_pureH (i := 13) (j := 89) (v := ?_) rfl rfl (by kernel_rfl) (by kernel_rfl) (by kernel_rfl) (by decide) (fun _ _ _ h => h) (fun _ => hS) (Or.inl ⟨by kernel_rfl, fun _ _ => ?_⟩) ?_
        rotate_left
        · go_simp
          try with_reducible rfl
        refine wpU_loadH (i := 14) (j := 90) (v := ?_) rfl rfl (by kernel_rfl) (by kernel_rfl) (by kernel_rfl) (by decide) (by kernel_rfl) (by kernel_rfl) (fun _ _ _ h => h) hS (Or.inl ⟨by kernel_rfl, fun wl hl => ?_⟩) ?_
        rotate_left
        · obtain ⟨l0, l1, l2, l3⟩ := hl
          go_simp
          try with_reducible rfl
        refine wpU_pureH (i := 15) (j := 91) (v := ?_) rfl rfl (by kernel_rfl) (by kernel_rfl) (by kernel_rfl) (by decide) (fun _ _ _ h => h) (fun _ => hS) (Or.inl ⟨by kernel_rfl, fun _ _ => ?_⟩) ?_
        rotate_left
        · go_simp
          try with_reducible rfl
        refine wpU_pureH (i := 16) (j := 92) (v := ?_) rfl rfl (by kernel_rfl) (by kernel_rfl) (by kernel_rfl) (by decide) (fun _ _ _ h => h) (fun _ => hS) (Or.inl ⟨by kernel_rfl, fun _ _ => ?_⟩) ?_
        rotate_left
        · go_simp
          try with_reducible rfl
        refine wpU_all [7, 9] (by kernel_rfl) (by simp) ?_
        refine ReadyU.cons rfl (fun K hK => ?_) (ReadyU.cons rfl (fun K hK => ?_) ReadyU.nil)
        · have HB := Lib.hid (Chg.of_ext (Ext.of_drawn w6 1) (fun b => w6.heap.size ≤ b))
          refine step_of_wp rfl (wp_appk (B := w6.heap.size) _ _ 190 190 194 zrf 3 48 rfl Tryz.underlying190 info_rf rfl rfl (OwnK.nil _ _ _ _) (by go_simp) (SRC1.out _ HB.out) (by rw [NL1.out]) (by unfold maxLen; omega) (by omega) HB.out.size fun a1 k1 w7 ha => ?_)
          have hc7 := HB.out.trans ((Chg.refl (fun b => w6.heap.size ≤ b) _).grown ha.2.1 (fun k hk => by cases hk))
          have hS : (fun w' : World => w'.cell? ⟨r, 0, none⟩ = some (.slice (some ⟨g, 0, none⟩) n lc) ∧ w'.cell? ⟨fb, 0, none⟩ = some (.string (bstr p)) ∧ w'.cell? ⟨fb, 1, none⟩ = some (.slice ad b.length c4) ∧ w'.cell? ⟨fb, 2, none⟩ = some (.bool false)) w7 := ⟨hc7.cell c0 (show ¬ w6.heap.size ≤ r by omega), hc7.cell f0 (show ¬ w6.heap.size ≤ fb by omega), hc7.cell f1 (show ¬ w6.heap.size ≤ fb by omega), hc7.cell f2 (show ¬ w6.heap.size ≤ fb by omega)⟩
          refine hK.out _ _ (fun _ => hS) ?_
          refine wpU_putH (j := 83) rfl ?_
          clear hK K
          have HA1 := Lib.hid (And.intro ha.1 hc7)
          clear ha hc7
          refine wpU_all [9] (by kernel_rfl) (by simp) ?_
          refine ReadyU.cons rfl (fun K hK => ?_) ReadyU.nil
          have hc8 := HA1.out.2.alloc (.cells #[.string (bstr p), .slice ad b.length c4, .bool false] 194)
          have hS : (fun w' : World => w'.cell? ⟨r, 0, none⟩ = some (.slice (some ⟨g, 0, none⟩) n lc) ∧ w'.cell? ⟨fb, 0, none⟩ = some (.string (bstr p)) ∧ w'.cell? ⟨fb, 1, none⟩ = some (.slice ad b.length c4) ∧ w'.cell? ⟨fb, 2, none⟩ = some (.bool false)) (w7.alloc (.cells #[.string (bstr p), .slice ad b.length c4, .bool false] 194)) := ⟨hc8.cell c0 (show ¬ w6.heap.size ≤ r by omega), hc8.cell f0 (show ¬ w6.heap.size ≤ fb by omega), hc8.cell f1 (show ¬ w6.heap.size ≤ fb by omega), hc8.cell f2 (show ¬ w6.heap.size ≤ fb by omega)⟩
          have hq := one_src w7 p fx HFX.out _ (Chg.refl _ _)
          rw [HFV.out.1, HFV.out.2] at hq
          have HA := Lib.hid (And.intro (HA1.out.1.ext ((Ext.refl w7).alloc (Nat.le_refl _) (.cells #[.string (bstr p), .slice ad b.length c4, .bool false] 194))) (And.intro hq hc8))
          simp only [List.set_cons_zero, List.set_cons_succ]
          go_simp
          refine hK.out _ _ (fun _ => hS) ?_
          clear hK K hc8 hq
          refine wpU_all [10] (by kernel_rfl) (by simp) ?_
          refine ReadyU.cons rfl (fun K hK => ?_) ReadyU.nil
          refine step_of_wp rfl (wp_appk (B := w6.heap.size) _ _ 190 190 194 zrf 3 48 rfl Tryz.underlying190 info_rf rfl (by go_simp) HA.out.1 (by go_simp) HA.out.2.1 (by rfl) (by unfold maxLen; omega) (by omega) HA.out.2.2.size fun a2 k2 w9 ha => ?_)
          have hc9 : Chg (fun b => w6.heap.size ≤ b) w6 w9 := HA.out.2.2.trans ((Chg.refl (fun b => w6.heap.size ≤ b) _).grown ha.2.1 (fun k hk => .inl (HA.out.1.block k hk)))
          have hS : (fun w' : World => w'.cell? ⟨r, 0, none⟩ = some (.slice (some ⟨g, 0, none⟩) n lc) ∧ w'.cell? ⟨fb, 0, none⟩ = some (.string (bstr p)) ∧ w'.cell? ⟨fb, 1, none⟩ = some (.slice ad b.length c4) ∧ w'.cell? ⟨fb, 2, none⟩ = some (.bool false)) w9 := ⟨hc9.cell c0 (show ¬ w6.heap.size ≤ r by omega), hc9.cell f0 (show ¬ w6.heap.size ≤ fb by omega), hc9.cell f1 (show ¬ w6.heap.size ≤ fb by omega), hc9.cell f2 (show ¬ w6.heap.size ≤ fb by omega)⟩
          refine hK.out _ _ (fun _ => hS) ?_
          refine wpU_putH (j := 86) rfl ?_
          clear hK K
          have HA2 := Lib.hid (And.intro ha.1 hc9)
          clear ha hc9
          refine wpU_all [17] (by kernel_rfl) (by simp) ?_
          refine ReadyU.cons rfl (fun K hK => ?_) ReadyU.nil
          refine step_of_wp rfl (wp_appk (B := w6.heap.size) _ _ 190 190 194 zrf 3 48 rfl Tryz.underlying190 info_rf rfl (by go_simp) HA2.out.1 (by go_simp) (SRC2.out _ HA2.out.2) (by rw [NL2.out]) (by unfold maxLen; omega) (by omega) HA2.out.2.size fun a3 k3 wa ha => ?_)
          have hca : Chg (fun b => w6.heap.size ≤ b) w6 wa := HA2.out.2.trans ((Chg.refl (fun b => w6.heap.size ≤ b) _).grown ha.2.1 (fun k hk => .inl (HA2.out.1.block k hk)))
          have hS : (fun w' : World => w'.cell? ⟨r, 0, none⟩ = some (.slice (some ⟨g, 0, none⟩) n lc) ∧ w'.cell? ⟨fb, 0, none⟩ = some (.string (bstr p)) ∧ w'.cell? ⟨fb, 1, none⟩ = some (.slice ad b.length c4) ∧ w'.cell? ⟨fb, 2, none⟩ = some (.bool false)) wa := ⟨hca.cell c0 (show ¬ w6.heap.size ≤ r by omega), hca.cell f0 (show ¬ w6.heap.size ≤ fb by omega), hca.cell f1 (show ¬ w6.heap.size ≤ fb by omega), hca.cell f2 (show ¬ w6.heap.size ≤ fb by omega)⟩
          have ua := hca.unfrozen c0 u0 (show ¬ w6.heap.size ≤ r by omega)
          refine hK.out _ _ (fun _ => hS) ?_
          refine wpU_putH (j := 93) rfl ?_
          clear hK K
          have hll : (es.take i ++ (p, fx) :: es.drop i).length = 0 + i + 1 + (n - i) := by  rw [List.length_append, List.length_cons, List.length_take, List.length_drop, HNN.out]; omega
          have ho := ha.1
          have ecs : (([] ++ rcells (List.take i es)) ++ rc (p, fx)) ++ rcells (List.drop i es) = rcells (es.take i ++ (p, fx) :: es.drop i) := by  rw [List.nil_append, rcells_append, rcells_cons, List.append_assoc]
          rw [ecs, ← hll] at ho
          have FIN := H6.out.relist hca ho HUP.out (HFI.out _ hca) HPP.out
          rw [Nat.zero_add] at hll
          rw [hll] at FIN
          have FIN := Lib.hid FIN
          clear ha hca ho ecs hll
          refine wpU_pureH (i := 18) (j := 94) (v := ?_) rfl rfl (by kernel_rfl) (by kernel_rfl) (by kernel_rfl) (by decide) (fun _ _ _ h => h) (fun _ => hS) (Or.inl ⟨by kernel_rfl, fun _ _ => ?_⟩) ?_
          rotate_left
          · go_simp
            try with_reducible rfl
          refine wpU_pureH (i := 19) (j := 95) (v := ?_) rfl rfl (by kernel_rfl) (by kernel_rfl) (by kernel_rfl) (by decide) (fun _ _ _ h => h) (fun _ => hS) (Or.inl ⟨by kernel_rfl, fun _ _ => ?_⟩) ?_
          rotate_left
          · go_simp
            try with_reducible rfl
          refine wpU_all [20] (by kernel_rfl) (by simp) ?_
          refine ReadyU.cons rfl (fun K hK => ?_) ReadyU.nil
          simp only [List.set_cons_zero, List.set_cons_succ]
          go_simp
          refine hK.out _ _ (fun h => Bool.noConfusion (show true = false from h)) ?_
          clear hK K
          refine wpU_done (by kernel_rfl) ?_ _
          exact cut_end ⟨⟨_, FIN.out.1, FIN.out.2.1⟩, FIN.out.2.2⟩ (by kernel_rfl)
        · have hc8 := (Chg.of_ext (Ext.of_drawn w6 1) (fun b => w6.heap.size ≤ b)).alloc (.cells #[.string (bstr p), .slice ad b.length c4, .bool false] 194)
          have hS : (fun w' : World => w'.cell? ⟨r, 0, none⟩ = some (.slice (some ⟨g, 0, none⟩) n lc) ∧ w'.cell? ⟨fb, 0, none⟩ = some (.string (bstr p)) ∧ w'.cell? ⟨fb, 1, none⟩ = some (.slice ad b.length c4) ∧ w'.cell? ⟨fb, 2, none⟩ = some (.bool false)) (w6.drew.alloc (.cells #[.string (bstr p), .slice ad b.length c4, .bool false] 194)) := ⟨hc8.cell c0 (show ¬ w6.heap.size ≤ r by omega), hc8.cell f0 (show ¬ w6.heap.size ≤ fb by omega), hc8.cell f1 (show ¬ w6.heap.size ≤ fb by omega), hc8.cell f2 (show ¬ w6.heap.size ≤ fb by omega)⟩
          have hq := one_src w6.drew p fx HFX.out
          rw [HFV.out.1, HFV.out.2] at hq
          simp only [List.set_cons_zero, List.set_cons_succ]
          go_simp
          refine hK.out _ _ (fun _ => hS) ?_
          have HB := Lib.hid hc8
          have HQ := Lib.hid hq
          clear hK K hc8 hq
          refine wpU_all [7] (by kernel_rfl) (by simp) ?_
          refine ReadyU.cons rfl (fun K hK => ?_) ReadyU.nil
          refine step_of_wp rfl (wp_appk (B := w6.heap.size) _ _ 190 190 194 zrf 3 48 rfl Tryz.underlying190 info_rf rfl rfl (OwnK.nil _ _ _ _) (by go_simp) (SRC1.out _ HB.out) (by rw [NL1.out]) (by unfold maxLen; omega) (by omega) HB.out.size fun a1 k1 w7 ha => ?_)
          have hc7 := HB.out.trans ((Chg.refl (fun b => w6.heap.size ≤ b) _).grown ha.2.1 (fun k hk => by cases hk))
          have hS : (fun w' : World => w'.cell? ⟨r, 0, none⟩ = some (.slice (some ⟨g, 0, none⟩) n lc) ∧ w'.cell? ⟨fb, 0, none⟩ = some (.string (bstr p)) ∧ w'.cell? ⟨fb, 1, none⟩ = some (.slice ad b.length c4) ∧ w'.cell? ⟨fb, 2, none⟩ = some (.bool false)) w7 := ⟨hc7.cell c0 (show ¬ w6.heap.size ≤ r by omega), hc7.cell f0 (show ¬ w6.heap.size ≤ fb by omega), hc7.cell f1 (show ¬ w6.heap.size ≤ fb by omega), hc7.cell f2 (show ¬ w6.heap.size ≤ fb by omega)⟩
          refine hK.out _ _ (fun _ => hS) ?_
          refine wpU_putH (j := 83) rfl ?_
          clear hK K
          have HA := Lib.hid (And.intro ha.1 (And.intro (HQ.out w7 ((Chg.refl _ _).grown ha.2.1 (fun k hk => by cases hk))) hc7))
          clear ha hc7
          refine wpU_all [10] (by kernel_rfl) (by simp) ?_
          refine ReadyU.cons rfl (fun K hK => ?_) ReadyU.nil
          refine step_of_wp rfl (wp_appk (B := w6.heap.size) _ _ 190 190 194 zrf 3 48 rfl Tryz.underlying190 info_rf rfl (by go_simp) HA.out.1 (by go_simp) HA.out.2.1 (by rfl) (by unfold maxLen; omega) (by omega) HA.out.2.2.size fun a2 k2 w9 ha => ?_)
          have hc9 : Chg (fun b => w6.heap.size ≤ b) w6 w9 := HA.out.2.2.trans ((Chg.refl (fun b => w6.heap.size ≤ b) _).grown ha.2.1 (fun k hk => .inl (HA.out.1.block k hk)))
          have hS : (fun w' : World => w'.cell? ⟨r, 0, none⟩ = some (.slice (some ⟨g, 0, none⟩) n lc) ∧ w'.cell? ⟨fb, 0, none⟩ = some (.string (bstr p)) ∧ w'.cell? ⟨fb, 1, none⟩ = some (.slice ad b.length c4) ∧ w'.cell? ⟨fb, 2, none⟩ = some (.bool false)) w9 := ⟨hc9.cell c0 (show ¬ w6.heap.size ≤ r by omega), hc9.cell f0 (show ¬ w6.heap.size ≤ fb by omega), hc9.cell f1 (show ¬ w6.heap.size ≤ fb by omega), hc9.cell f2 (show ¬ w6.heap.size ≤ fb by omega)⟩
          refine hK.out _ _ (fun _ => hS) ?_
          refine wpU_putH (j := 86) rfl ?_
          clear hK K
          have HA2 := Lib.hid (And.intro ha.1 hc9)
          clear ha hc9
          refine wpU_all [17] (by kernel_rfl) (by simp) ?_
          refine ReadyU.cons rfl (fun K hK => ?_) ReadyU.nil
          refine step_of_wp rfl (wp_appk (B := w6.heap.size) _ _ 190 190 194 zrf 3 48 rfl Tryz.underlying190 info_rf rfl (by go_simp) HA2.out.1 (by go_simp) (SRC2.out _ HA2.out.2) (by rw [NL2.out]) (by unfold maxLen; omega) (by omega) HA2.out.2.size fun a3 k3 wa ha => ?_)
          have hca : Chg (fun b => w6.heap.size ≤ b) w6 wa := HA2.out.2.trans ((Chg.refl (fun b => w6.heap.size ≤ b) _).grown ha.2.1 (fun k hk => .inl (HA2.out.1.block k hk)))
          have hS : (fun w' : World => w'.cell? ⟨r, 0, none⟩ = some (.slice (some ⟨g, 0, none⟩) n lc) ∧ w'.cell? ⟨fb, 0, none⟩ = some (.string (bstr p)) ∧ w'.cell? ⟨fb, 1, none⟩ = some (.slice ad b.length c4) ∧ w'.cell? ⟨fb, 2, none⟩ = some (.bool false)) wa := ⟨hca.cell c0 (show ¬ w6.heap.size ≤ r by omega), hca.cell f0 (show ¬ w6.heap.size ≤ fb by omega), hca.cell f1 (show ¬ w6.heap.size ≤ fb by omega), hca.cell f2 (show ¬ w6.heap.size ≤ fb by omega)⟩
          have ua := hca.unfrozen c0 u0 (show ¬ w6.heap.size ≤ r by omega)
          refine hK.out _ _ (fun _ => hS) ?_
          refine wpU_putH (j := 93) rfl ?_
          clear hK K
          have hll : (es.take i ++ (p, fx) :: es.drop i).length = 0 + i + 1 + (n - i) := by  rw [List.length_append, List.length_cons, List.length_take, List.length_drop, HNN.out]; omega
          have ho := ha.1
          have ecs : (([] ++ rcells (List.take i es)) ++ rc (p, fx)) ++ rcells (List.drop i es) = rcells (es.take i ++ (p, fx) :: es.drop i) := by  rw [List.nil_append, rcells_append, rcells_cons, List.append_assoc]
          rw [ecs, ← hll] at ho
          have FIN := H6.out.relist hca ho HUP.out (HFI.out _ hca) HPP.out
          rw [Nat.zero_add] at hll
          rw [hll] at FIN
          have FIN := Lib.hid FIN
          clear ha hca ho ecs hll
          refine wpU_pureH (i := 18) (j := 94) (v := ?_) rfl rfl (by kernel_rfl) (by kernel_rfl) (by kernel_rfl) (by decide) (fun _ _ _ h => h) (fun _ => hS) (Or.inl ⟨by kernel_rfl, fun _ _ => ?_⟩) ?_
          rotate_left
          · go_simp
            try with_reducible rfl
          refine wpU_pureH (i := 19) (j := 95) (v := ?_) rfl rfl (by kernel_rfl) (by kernel_rfl) (by kernel_rfl) (by decide) (fun _ _ _ h => h) (fun _ => hS) (Or.inl ⟨by kernel_rfl, fun _ _ => ?_⟩) ?_
          rotate_left
          · go_simp
            try with_reducible rfl
          refine wpU_all [20] (by kernel_rfl) (by simp) ?_
          refine ReadyU.cons rfl (fun K hK => ?_) ReadyU.nil
          simp only [List.set_cons_zero, List.set_cons_succ]
          go_simp
          refine hK.out _ _ (fun h => Bool.noConfusion (show true = false from h)) ?_
          clear hK K
          refine wpU_done (by kernel_rfl) ?_ _
          exact cut_end ⟨⟨_, FIN.out.1, FIN.out.2.1⟩, FIN.out.2.2⟩ (by kernel_rfl)
      · intro us w8 h8
        have H8 := Lib.hid (FINR.out w8 h8)
        clear h8 hS c0 f0 f1 f2 u0
        simp only [setAll, List.foldl_cons, List.foldl_nil, List.set_cons_zero, List.set_cons_succ]
        go_wp2_with fail
        go_ret
        exact H8.out
  | some x =>
    obtain ⟨hpl, hpe⟩ := there_at H3.out.up hx
    have HX := Lib.hid (And.intro hx hpe)
    have hxl : x.f.b.length ≤ tot d.fs := by
      have := tot_mem (l := d.fs) (e := (p, x.f)) (get_mem (by rw [HFS.out]; unfold rfils; rw [get_mapv, hx]; rfl))
      exact this
    rw [HNN.out.2.1] at hxl
    have hol : olen p d.fs = x.f.b.length := by unfold olen; rw [show get p d.fs = some x.f by rw [HFS.out]; unfold rfils; rw [get_mapv, hx]; rfl]
    have HOL := Lib.hid hol
    clear hx hpe hol
    obtain ⟨g, cap, hlv, hcap, -⟩ := H3.out.entry hpl
    cases hlv
    rw [HNN.out.1] at hpl hcap
    have HPL := Lib.hid hpl
    obtain ⟨i, hq⟩ : ∃ q, pos p es = q := ⟨_, rfl⟩
    have HQ := Lib.hid hq
    rw [hq] at hpl ⊢
    obtain ⟨ol, hol⟩ : ∃ o, x.f.b.length = o := ⟨_, rfl⟩
    have HOL2 := Lib.hid hol
    rw [hol] at hxl
    clear hq hol
    go_wp2_with fail
    go_region_held3 (fun w' : World => w'.cell? ⟨r, 0, none⟩ = some (.slice (some ⟨g, 0, none⟩) n lc)) (assumption) (first | (go_at_call 103; refine (USED.out _ x0).mono ?_; rintro e w4 ⟨rfl, hx4, hS4⟩))
    have H4 := Lib.hid (H3.out.ext hx4)
    have HZ4 := Lib.hid (HZ3.out.chg (Chg.of_ext hx4 (fun _ => False)) (fun _ _ h => h))
    have HG4 := Lib.hid (HG3.out.trans (Chg.of_ext hx4 _))
    have HV4 := Lib.hid (Cells.ext (Cells.ext (Bytes.keep HV.out HGR.out HNB.out) X23.out) hx4)
    have c1 : w4.cell? ⟨r, 1, none⟩ = some (.int .i64 (d.most : Int)) := by rw [← HD5.out.2.2]; exact H4.out.row.cell (i := 1) rfl
    have hmost : d.most ≤ 4194304 := by rw [← HD5.out.2.2]; exact H4.out.nm
    obtain ⟨g', cap', hlv', -, dd0, dd1, dd2, ddu⟩ := H4.out.entry (i := i) (by rw [HNN.out.1]; exact hpl)
    cases hlv'
    have hei : es[i]'(by rw [HNN.out.1]; exact hpl) = (p, x) := by have := HX.out.2; simp only [HQ.out] at this; exact this
    rw [hei] at dd0 dd1 dd2
    obtain ⟨xa, xc, hv⟩ := Own.slice' (H4.out.file _ (get_mem HX.out.1))
    rw [bvs_len] at hv
    have hv : x.v = .slice xa x.f.b.length xc := hv
    rw [show (p, x).2.v = x.v from rfl, hv, HOL2.out] at dd1
    clear x0 S0 USED hS4 hx4 hv
    have e1 : ((t : Nat) : Int) + (b.length : Int) = ((t + b.length : Nat) : Int) := by omega
    obtain ⟨z1, hz1⟩ : ∃ z1, t + b.length = z1 := ⟨_, rfl⟩
    rw [hz1] at e1
    have e2 : ((z1 : Nat) : Int) - (ol : Int) = ((z1 - ol : Nat) : Int) := by omega
    obtain ⟨z2, hz2⟩ : ∃ z2, z1 - ol = z2 := ⟨_, rfl⟩
    rw [hz2] at e2
    have hzb : z1 ≤ 1099512000000 := by omega
    have hw1 : IntKind.i64.wrap ((z1 : Nat) : Int) = ((z1 : Nat) : Int) := by rw [IntKind.wrap_i64]; omega
    have hw2 : IntKind.i64.wrap ((n : Int) + 1) = (n : Int) + 1 := by rw [IntKind.wrap_i64]; omega
    have hww : writes z d p b = if d.most < z2 then (8, (begins z d [p]).2) else (0, (begins z d [p]).2.1, { (begins z d [p]).2.2 with fs := put p ⟨b, false⟩ d.fs }) := by
      have hg : get p d.fs = some x.f := by rw [HFS.out]; unfold rfils; rw [get_mapv, HX.out.1]; rfl
      unfold writes
      rw [HOL.out, HOL2.out, HN.out, if_neg (by simp), if_neg hbl, hg, HNN.out.2.1, HNN.out.2.2, hz1]
      show (if d.most + ol < z1 ∨ 4096 < n then _ else _) = _
      by_cases hc : d.most < z2
      · rw [if_pos hc, if_pos (by omega)]
      · rw [if_neg hc, if_neg (by omega)]
    have HWW := Lib.hid hww
    clear hww
    by_cases hm : d.most < z2
    · have HR := Lib.hid (show writes z d p b = (8, (begins z d [p]).2) by rw [HWW.out, if_pos hm])
      have hm1 : (d.most : Int) < (z2 : Int) := by omega
      clear hm
      go_wp2_with fail
      go_ret
      unfold RefOut
      rw [HR.out]
      exact ⟨rfl, HZ4.out, (show RRaw w4 r rf (.slice (some ⟨g, 0, none⟩) es.length lc) es (begins z d [p]).2.2 by rw [HD5.out.1]; exact H4.out).refAt (fun b hb => .inl (HS.out.1 b hb)) HS.out.2.1 HS.out.2.2.1 HS.out.2.2.2 HG4.out.size, HG4.out⟩
    have hm1 : (z2 : Int) ≤ (d.most : Int) := by omega
    have hm2 : (n : Int) ≤ 4096 := by omega
    have HR := Lib.hid (show writes z d p b = (0, (begins z d [p]).2.1, { (begins z d [p]).2.2 with fs := put p ⟨b, false⟩ d.fs }) by rw [HWW.out, if_neg hm])
    clear hm
    have DDU := Lib.hid ddu
    have DD := Lib.hid (And.intro dd0 dd2)
    clear dd0 dd2 ddu
    have HSRC := Lib.hid (Cells.src (P := Tryz.prog) Tryz.underlying24 HV4.out (bvs_one _))
    have hblk : b.length ≤ 262144 := by omega
    have HBL := Lib.hid hblk
    clear hblk
    go_wp2_with (at_builtin; refine list_of_wp rfl fun K hK => wp_appx (B := w4.heap.size) _ _ 24 24 5 (.int .u8 0) 1 rfl Tryz.underlying24 info_b1 rfl rfl (Own.nil _ _ _) rfl HSRC.out (by have := HBL.out; rw [bvs_len]; simp [maxLen]; omega) (by have := HBL.out; rw [bvs_len]; simp; omega) (Nat.le_refl _) b.length (by rw [bvs_len]; simp) fun ad c4 w5 ha => hK _ _ ?_)
    have hx5 : Ext w4 w5 := Ext.grown ha.2.1 (fun k hk => by cases hk)
    have hx6 : Ext w5 (w5.alloc (.cells #[.string (bstr p), .slice ad b.length c4, .bool false] 194)) := (Ext.refl w5).alloc (Nat.le_refl _) _
    have hr6 := Row.new w5 194 #[.string (bstr p), .slice ad b.length c4, .bool false]
    have hU6 := Own.ext ha.1 hx6
    obtain ⟨fb, hfb⟩ : ∃ fb, w5.heap.size = fb := ⟨_, rfl⟩
    obtain ⟨w6, hw6⟩ : ∃ w6, w5.alloc (.cells #[.string (bstr p), .slice ad b.length c4, .bool false] 194) = w6 := ⟨_, rfl⟩
    rw [hw6] at hx6 hr6 hU6
    rw [hfb] at hr6
    have hx46 := Ext.trans hx5 hx6
    have H6 := Lib.hid (H4.out.ext hx46)
    have HZ6 := Lib.hid (HZ4.out.chg (Chg.of_ext hx46 (fun _ => False)) (fun _ _ h => h))
    have HG6 := Lib.hid (HG4.out.trans (Chg.of_ext hx46 _))
    obtain ⟨fx, hfx⟩ : ∃ fx : REnt, fx = ⟨.slice ad b.length c4, ⟨b, false⟩⟩ := ⟨_, rfl⟩
    have HU6 := Lib.hid (show Own w6 0 5 fx.v (bvs fx.f.b) by rw [hfx]; exact (show Own w6 w4.heap.size 5 (.slice ad b.length c4) (bvs b) from hU6).mono (Nat.zero_le _))
    have HUB := Lib.hid (show ∀ k, fx.v.ownBlock = some k → w.heap.size ≤ k by
      rw [hfx]
      exact fun k hk => Nat.le_trans HG4.out.size ((show Own w6 w4.heap.size 5 (.slice ad b.length c4) (bvs b) from hU6).block k hk))
    have HFX := Lib.hid (show fx.v.oneCell' = true by rw [hfx]; rfl)
    have HFXE := Lib.hid hfx
    have HFV := Lib.hid (show fx.v = .slice ad b.length c4 ∧ fx.f.sure = false by rw [hfx]; exact ⟨rfl, rfl⟩)
    have f0 := hr6.cell (i := 0) (v := .string (bstr p)) rfl
    have f1 := hr6.cell (i := 1) (v := .slice ad b.length c4) rfl
    have f2 := hr6.cell (i := 2) (v := .bool false) rfl
    have hfl6 := hr6.lt
    have hrl := H6.out.row.lt
    have u0 := H6.out.row.unfrozen 0
    have c0 : w6.cell? ⟨r, 0, none⟩ = some (.slice (some ⟨g, 0, none⟩) n lc) := by rw [← HNN.out.1]; exact H6.out.row.cell (i := 0) rfl
    rw [hw6, hfb]
    have hgfb : ¬ fb = g := by
      have h1 := H4.out.lst.lt (b := g) rfl
      have h2 := hx5.size
      omega
    clear ha hx5 hx6 hx46 hr6 hU6 hw6 hfb c1 hfx
    clear dd1
    obtain ⟨g6, cap6, hlv6, -, g0, g1, g2, gu⟩ := H6.out.entry (i := i) (by rw [HNN.out.1]; exact hpl)
    cases hlv6
    rw [hei] at g0 g1 g2
    have gu0 := gu (i * 3)
    have gu1 := gu (i * 3 + 1)
    have gu2 := gu (i * 3 + 2)
    have S0 : (fun w' : World => w'.cell? ⟨r, 0, none⟩ = some (.slice (some ⟨g, 0, none⟩) n lc) ∧ w'.cell? ⟨fb, 0, none⟩ = some (.string (bstr p)) ∧ w'.cell? ⟨fb, 1, none⟩ = some (.slice ad b.length c4) ∧ w'.cell? ⟨fb, 2, none⟩ = some (.bool false)) w6.drew := ⟨c0, f0, f1, f2⟩
    have hpi : (i : Int) < (n : Int) := by omega
    clear hei gu
    have hgr : ¬ r = g := fun e => H6.out.self.1 (by rw [e]; rfl)
    have hc7 : Chg (fun k => k = g) w6 (((w6.setCell ⟨g, i * 3, none⟩ (.string (bstr p))).setCell ⟨g, i * 3 + 1, none⟩ (.slice ad b.length c4)).setCell ⟨g, i * 3 + 2, none⟩ (.bool false)) := (((Chg.refl (fun k => k = g) w6).at g (i * 3) (.inl rfl) _).at g (i * 3 + 1) (.inl rfl) _).at g (i * 3 + 2) (.inl rfl) _
    have hSS : (fun w' : World => w'.cell? ⟨r, 0, none⟩ = some (.slice (some ⟨g, 0, none⟩) n lc) ∧ w'.cell? ⟨fb, 0, none⟩ = some (.string (bstr p)) ∧ w'.cell? ⟨fb, 1, none⟩ = some (.slice ad b.length c4) ∧ w'.cell? ⟨fb, 2, none⟩ = some (.bool false)) (((w6.setCell ⟨g, i * 3, none⟩ (.string (bstr p))).setCell ⟨g, i * 3 + 1, none⟩ (.slice ad b.length c4)).setCell ⟨g, i * 3 + 2, none⟩ (.bool false)).drew := ⟨hc7.cell c0 hgr, hc7.cell f0 hgfb, hc7.cell f1 hgfb, hc7.cell f2 hgfb⟩
    have hset := ((H6.out.lst.set (i * 3) (.string (bstr p))).set (i * 3 + 1) (.slice ad b.length c4)).set (i * 3 + 2) (.bool false)
    have hcs : (((rcells es).set (i * 3) (.string (bstr p))).set (i * 3 + 1) (.slice ad b.length c4)).set (i * 3 + 2) (.bool false) = rcells (put p fx es) := by
      rw [put_there H6.out.up HX.out.1, HQ.out]
      exact rcells_set3 es i (by rw [HNN.out.1]; exact hpl) (p, fx) _ _ _ (by unfold rc; rw [HFV.out.1, HFV.out.2])
    rw [hcs] at hset
    have hnb : fx.v.ownBlock ≠ some g := fun e => by
      obtain ⟨cur, hr⟩ := H6.out.lst.row (b := g) rfl
      exact HU6.out.ne hr (fun e => rty4 e.symm) e
    have hU7 := HU6.out.chg hc7 fun k hk e => hnb (by rw [hk, e])
    have h7 := (H6.out.mark (x' := fx) HX.out.1 hnb hc7 hset hU7)
    rw [show put p fx.f d5.fs = put p ⟨b, false⟩ d.fs by rw [HD5.out.2.1, HFXE.out]] at h7
    have hgS : S g := HS.out.1 g (.inr (.inl rfl))
    have hz7 := HZ6.out.chg hc7 fun k hk e => HS.out.2.2.1 k hk (by rw [e]; exact hgS)
    have hg7 := HG6.out.trans (hc7.mono fun k _ hk => by rw [hk]; exact .inl hgS)
    have FIN : Hid (RefOut r rf S w (writes z d p b) (.returned (.int .i64 0)) (((w6.setCell ⟨g, i * 3, none⟩ (.string (bstr p))).setCell ⟨g, i * 3 + 1, none⟩ (.slice ad b.length c4)).setCell ⟨g, i * 3 + 2, none⟩ (.bool false)).drew) := Lib.hid (by
      unfold RefOut
      rw [HR.out, HD5.out.1]
      refine ⟨rfl, hz7.chg (Chg.of_ext (Ext.of_drawn _ 1) (fun _ => False)) (fun _ _ h => h), (h7.ext (Ext.of_drawn _ 1)).refAt (fun k hk => ?_) HS.out.2.1 HS.out.2.2.1 HS.out.2.2.2 hg7.size, hg7.trans (Chg.of_ext (Ext.of_drawn _ 1) _)⟩
      rcases hk with hk | hk | ⟨e, he, hk⟩
      · exact .inl (HS.out.1 k (.inl hk))
      · exact .inl (HS.out.1 k (.inr (.inl hk)))
      · rcases mem_put.1 he with rfl | ⟨he, -⟩
        · exact .inr ⟨HUB.out k hk, hU7.lt hk⟩
        · exact .inl (HS.out.1 k (.inr (.inr ⟨e, he, hk⟩))))
    clear hc7 hset hcs hnb hU7 h7 hgS hz7 hg7 hgfb hgr
    go_region_held3 (fun w' : World => w'.cell? ⟨r, 0, none⟩ = some (.slice (some ⟨g, 0, none⟩) n lc) ∧ w'.cell? ⟨fb, 0, none⟩ = some (.string (bstr p)) ∧ w'.cell? ⟨fb, 1, none⟩ = some (.slice ad b.length c4) ∧ w'.cell? ⟨fb, 2, none⟩ = some (.bool false)) (assumption) (fail)
    clear hSS S0
    go_wp2_with fail
    go_ret
    exact FIN.out
end Go.Proofs.YthkbbcdnmdjhdaaGreat
/-! XRfF: The reference's disk: Rename. -/
namespace Go.Proofs.YthkbbcdnmdjhdaaGreat
open Go.RowKit Dk
set_option maxRecDepth 100000
set_option maxHeartbeats 4000000
attribute [local go_sem] min_int2 max_int2 bstr_toList bstr_size

theorem begins_nb (z : Option FS) (d : DS) (ps : List Path) : (begins z d ps).2.2.bad ≤ d.bad := by
  unfold begins
  repeat (first | exact Nat.le_refl _ | (show d.bad - 1 ≤ d.bad; omega) | split)
theorem rrename_any (r : Nat) (rf : Option Nat) (z : Option FS) (d : DS) (S : Nat → Prop) (a p : Path) (w : World) (h : RefAt w r rf d S) (hz : RzAt w rf z) (hzo : zops z < 1099511627776) (ha : a.length ≤ maxLen) (hp : p.length ≤ maxLen) (hn : d.fs.length ≤ 4096) :
    Calls Tryz.prog 78 #[.pointer (some ⟨r, 0, none⟩), .string (bstr a), .string (bstr p)] w (RefOut r rf S w (renames z d a p)) := by
  obtain ⟨lv, es, h, hS1, hS2, hS3⟩ := h
  have x0 : Ext w (w.alloc (.cells #[.string (bstr a), .string (bstr p)] 9)) := (Ext.refl w).alloc (Nat.le_refl _) _
  have hst : Strs (w.alloc (.cells #[.string (bstr a), .string (bstr p)] 9)) (.slice (some ⟨w.heap.size, 0, none⟩) 2 2) [a, p] := Own.new w 0 9 #[.string (bstr a), .string (bstr p)] (Nat.zero_le _) (by unfold maxLen; simp)
  obtain ⟨w1, hw1⟩ : ∃ w1, w.alloc (.cells #[.string (bstr a), .string (bstr p)] 9) = w1 := ⟨_, rfl⟩
  have HW1 := Lib.hid hw1
  rw [hw1] at x0 hst
  have H := Lib.hid (And.intro (h.ext x0) (And.intro (hz.chg (Chg.of_ext x0 (fun _ => False)) (fun _ _ h => h)) (And.intro hst x0)))
  have HS := Lib.hid (And.intro hS1 (And.intro hS2 (And.intro hS3 (fun b hb => hz.lt b hb))))
  have hlen : es.length ≤ 4096 := by have h1 := h.fs; rw [h1] at hn; simpa [rfils, mapv_length] using hn
  have HP := Lib.hid (show ∀ x ∈ [a, p], x.length ≤ maxLen by simp; exact ⟨ha, hp⟩)
  clear h hz hS1 hS2 hS3 hst hw1 x0 hp ha
  go_enter Tryz.func78, Tryz.ntmps78
  go_wp2_with fail
  rw [HW1.out]
  refine (ask_any r rf z lv es d [a, p] _ _ H.out.1 H.out.2.1 hzo (by simp) HP.out H.out.2.2.1).mono ?_; rintro e w2 ⟨rfl, hz2, h2, hg2, hsz2⟩
  have HG2 := Lib.hid ((Chg.of_ext H.out.2.2.2 (fun b => S b ∨ rf = some b)).trans (hg2.mono (T := fun b => S b ∨ rf = some b) fun b _ hb => by
    rcases hb with rfl | hb
    · exact .inl (HS.out.1 _ (.inl rfl))
    · exact .inr hb))
  have HGR := Lib.hid ((Chg.of_ext H.out.2.2.2 (fun b => b = r ∨ rf = some b)).trans hg2)
  have HZ2 := Lib.hid hz2
  have H2 := Lib.hid h2
  have HFS := Lib.hid (H.out.1.fs)
  clear hz2 h2 hg2 hsz2 HW1
  obtain ⟨n, hnn⟩ : ∃ n, (begins z d [a, p]).1 = n := ⟨_, rfl⟩
  rw [hnn]
  have HN := Lib.hid hnn
  clear hnn
  by_cases h0 : n = 0
  case neg =>
    have q1 : ((n : Int) != 0) = true := by simp; omega
    have HO := Lib.hid (show opens z d a [p] = n by unfold opens; rw [HN.out, if_neg h0])
    have HNZ := Lib.hid h0
    clear h0
    go_wp2_with fail
    go_ret
    have HR := Lib.hid (show renames z d a p = (n, (begins z d [a, p]).2) by unfold renames; rw [HO.out, if_neg HNZ.out])
    unfold RefOut
    rw [HR.out]
    exact ⟨rfl, HZ2.out, H2.out.refAt (fun b hb => .inl (HS.out.1 b hb)) HS.out.2.1 HS.out.2.2.1 HS.out.2.2.2 HG2.out.size, HG2.out⟩
  subst h0
  have q1 : (((0 : Nat) : Int) != 0) = false := rfl
  have hokp : okP a = true ∧ okP p = true := by
    have h1 := HN.out
    unfold begins at h1
    by_cases c1 : (ticks z).1 = false
    · rw [if_pos c1] at h1; cases h1
    · rw [if_neg c1] at h1
      by_cases c2 : d.off = true
      · rw [if_pos c2] at h1; cases h1
      · rw [if_neg c2] at h1
        by_cases c3 : 0 < d.bad
        · rw [if_pos c3] at h1; cases h1
        · rw [if_neg c3] at h1
          by_cases c4 : [a, p].all okP = true
          · simpa using c4
          · rw [if_neg c4] at h1; cases h1
  have HOK := Lib.hid hokp
  clear hokp
  go_wp2_with fail
  refine (at_any r rf lv es _ a _ H2.out (by omega) (Nat.le_trans (by have := HOK.out.1; unfold okP at this; exact (of_decide_eq_true this).2) (by decide))).mono ?_; rintro e w3 ⟨rfl, x3⟩
  have H3 := Lib.hid (H2.out.ext x3)
  have HZ3 := Lib.hid (HZ2.out.chg (Chg.of_ext x3 (fun _ => False)) (fun _ _ h => h))
  have HG3 := Lib.hid (HG2.out.trans (Chg.of_ext x3 _))
  clear x3 H2 HZ2 HG2
  cases hx : get a es with
  | none =>
    have HO := Lib.hid (show opens z d a [p] = 6 by unfold opens; rw [HN.out, if_pos rfl, HFS.out]; unfold rfils; rw [get_mapv, hx]; rfl)
    have HR := Lib.hid (show renames z d a p = (6, (begins z d [a, p]).2) by unfold renames; rw [HO.out, if_neg (by decide)])
    go_wp2_with fail
    go_ret
    unfold RefOut
    rw [HR.out]
    exact ⟨rfl, HZ3.out, H3.out.refAt (fun b hb => .inl (HS.out.1 b hb)) HS.out.2.1 HS.out.2.2.1 HS.out.2.2.2 HG3.out.size, HG3.out⟩
  | some x =>
    have HO := Lib.hid (show opens z d a [p] = 0 by unfold opens; rw [HN.out, if_pos rfl, HFS.out]; unfold rfils; rw [get_mapv, hx]; rfl)
    have HGX := Lib.hid (show get a d.fs = some x.f by rw [HFS.out]; unfold rfils; rw [get_mapv, hx]; rfl)
    obtain ⟨hpl, hpe⟩ := there_at H3.out.up hx
    have HX := Lib.hid (And.intro hx hpe)
    clear hx
    by_cases hap : a = p
    · have q2 : (a == p) = true := by simpa using hap
      have HR := Lib.hid (show renames z d a p = (0, (begins z d [a, p]).2) by unfold renames; rw [HO.out, if_pos rfl, if_pos hap])
      clear hpe hap
      go_wp2_with fail
      go_ret
      unfold RefOut
      rw [HR.out]
      exact ⟨rfl, HZ3.out, H3.out.refAt (fun b hb => .inl (HS.out.1 b hb)) HS.out.2.1 HS.out.2.2.1 HS.out.2.2.2 HG3.out.size, HG3.out⟩
    have q2 : (a == p) = false := by simpa using hap
    have HR := Lib.hid (show renames z d a p = (0, (begins z d [a, p]).2.1, { (begins z d [a, p]).2.2 with fs := put p x.f (del a d.fs) }) by
      unfold renames
      rw [HO.out, if_pos rfl, if_neg hap, HGX.out]
      simp only
      rw [put_del (by rw [HFS.out]; exact H3.out.up.mapv _) hap])
    have HAP := Lib.hid hap
    clear hap
    obtain ⟨g0, cap0, hlv, hcap0, d0, d1, d2, -⟩ := H3.out.entry hpl
    subst hlv
    have c0 := H3.out.row.cell (i := 0) (v := .slice (some ⟨g0, 0, none⟩) es.length cap0) rfl
    rw [hpe] at d0 d1 d2
    have hfile := H3.out.file _ (get_mem HX.out.1)
    obtain ⟨xa, xc, hv⟩ := Own.slice' hfile
    rw [bvs_len] at hv
    have hv : x.v = .slice xa x.f.b.length xc := hv
    obtain ⟨xl, hxl⟩ : ∃ xl, x.f.b.length = xl := ⟨_, rfl⟩
    rw [hxl] at hv
    obtain ⟨sv, hsv⟩ : ∃ sv, x.f.sure = sv := ⟨_, rfl⟩
    rw [show (a, x).2.v = x.v from rfl, hv] at d1
    rw [show (a, x).2.f.sure = x.f.sure from rfl, hsv] at d2
    rw [show (a, x).1 = a from rfl] at d0
    have HFV := Lib.hid (show x.v = .slice xa xl xc ∧ x.f.sure = sv from ⟨hv, hsv⟩)
    have HPL0 := Lib.hid hpl
    have hpi0 : ((pos a es : Nat) : Int) < (es.length : Int) := by omega
    obtain ⟨i0, hi0⟩ : ∃ q, pos a es = q := ⟨_, rfl⟩
    rw [hi0] at d0 d1 d2 hpi0 ⊢
    have hr4 := Row.new w3 194 #[.string (bstr p), .slice xa xl xc, .bool sv]
    have hx4 : Ext w3 (w3.alloc (.cells #[.string (bstr p), .slice xa xl xc, .bool sv] 194)) := (Ext.refl w3).alloc (Nat.le_refl _) _
    obtain ⟨fb, hfb⟩ : ∃ fb, w3.heap.size = fb := ⟨_, rfl⟩
    rw [hfb] at hr4
    have HI0 := Lib.hid hi0
    have HFB := Lib.hid hfb
    obtain ⟨w4, hw4⟩ : ∃ w4, w3.alloc (.cells #[.string (bstr p), .slice xa xl xc, .bool sv] 194) = w4 := ⟨_, rfl⟩
    have HR4 := Lib.hid (show Row w4 fb 194 #[.string (bstr p), .slice xa xl xc, .bool sv] by rw [← hw4]; exact hr4)
    rw [hw4] at hx4
    have HW4 := Lib.hid hw4
    have H4 := Lib.hid (H3.out.ext hx4)
    have HZ4 := Lib.hid (HZ3.out.chg (Chg.of_ext hx4 (fun _ => False)) (fun _ _ h => h))
    have HG4 := Lib.hid (HG3.out.trans (Chg.of_ext hx4 _))
    clear hpe hfile hv hsv hi0 hr4 hx4 hw4 hfb hxl
    go_wp2_with fail
    rw [HW4.out, HFB.out]
    have hdel : es.take i0 ++ es.drop (i0 + 1) = del a es := by
      rw [(placed a H4.out.up).2.2]
      unfold Dk.one
      rw [HX.out.1, HI0.out]; rfl
    refine (remove_any r rf _ es _ i0 _ H4.out (by have := HPL0.out; have := HI0.out; omega) (by omega)).mono ?_; rintro e w5 ⟨rfl, ⟨lv1, h5, hf5⟩, hg5⟩
    rw [hdel, show rfils (del a es) = del a d.fs by rw [HFS.out]; exact (del_mapv _ _ _).symm] at h5
    obtain ⟨es1, he1⟩ : ∃ es1, del a es = es1 := ⟨_, rfl⟩
    have HSUB := Lib.hid (show ∀ e ∈ es1, e ∈ es from fun e he => by rw [← he1] at he; exact (mem_del.1 he).1)
    have hxk := H4.out.file _ (get_mem HX.out.1)
    have HFS1 := Lib.hid (show del a d.fs = rfils es1 by rw [← he1, HFS.out]; exact del_mapv _ _ _)
    have hlen1 : es1.length ≤ 4096 := by rw [← he1]; have := List.length_filter_le (fun e : Path × REnt => !(e.1 == a)) es; exact Nat.le_trans this hlen
    rw [he1] at h5
    have hgr4 : ∀ k, k ≠ r → ¬ (fun b => b = r) k := fun k h => h
    have HXF5 := Lib.hid (show Own w5 0 5 x.v (bvs x.f.b) from hxk.chg hg5 fun k hk e => H4.out.self.2 _ (get_mem HX.out.1) (by rw [← e]; exact hk))
    have hfbr : ¬ fb = r := fun e => by have h1 := HR4.out; rw [e] at h1; exact H4.out.row.ne h1 rty2 rfl
    have HR5 := Lib.hid (HR4.out.chg hg5 hfbr)
    have HZ5 := Lib.hid (HZ4.out.chg hg5 fun k hk e => HS.out.2.2.1 k hk (by rw [e]; exact HS.out.1 r (.inl rfl)))
    have HG5 := Lib.hid (HG4.out.trans (hg5.mono fun k _ hk => by rw [hk]; exact .inl (HS.out.1 r (.inl rfl))))
    obtain ⟨d6, hd6⟩ : ∃ d6, ({ (begins z d [a, p]).2.2 with fs := del a d.fs } : DS) = d6 := ⟨_, rfl⟩
    rw [hd6] at h5
    have HD6 := Lib.hid hd6
    have H5 := Lib.hid h5
    have HF5 := Lib.hid (show ∀ b, lv1.ownBlock = some b → w.heap.size ≤ b from fun b hb => Nat.le_trans HG4.out.size (hf5 b hb))
    have HLF := Lib.hid (show lv1.ownBlock ≠ some fb from fun e => by
      have h1 := HR5.out.lt
      have h2 := hf5 fb e
      have h3 := HR4.out.lt
      omega)
    clear h5 hf5 hg5 hdel he1 hxk hd6 c0 d0 d1 d2 hpi0
    go_wp2_with fail
    refine (at_any r rf lv1 es1 _ p _ H5.out (by omega) (Nat.le_trans (by have := HOK.out.2; unfold okP at this; exact (of_decide_eq_true this).2) (by decide))).mono ?_; rintro e w6 ⟨rfl, x6⟩
    have H6 := Lib.hid (H5.out.ext x6)
    have HZ6 := Lib.hid (HZ5.out.chg (Chg.of_ext x6 (fun _ => False)) (fun _ _ h => h))
    have HG6 := Lib.hid (HG5.out.trans (Chg.of_ext x6 _))
    have hr6 := HR5.out.ext x6
    have f0 := hr6.cell (i := 0) (v := .string (bstr p)) rfl
    have f1 := hr6.cell (i := 1) (v := .slice xa xl xc) rfl
    have f2 := hr6.cell (i := 2) (v := .bool sv) rfl
    have hfl6 := hr6.lt
    have hrl := H6.out.row.lt
    have u0 := H6.out.row.unfrozen 0
    have HXF := Lib.hid (HXF5.out.ext x6)
    obtain ⟨fx, hfx⟩ : ∃ fx : REnt, fx = x := ⟨_, rfl⟩
    rw [← hfx] at HXF HFV HX HR HGX
    have HXS := Lib.hid (show ∀ k, fx.v.ownBlock = some k → S k from fun k hk => HS.out.1 k (.inr (.inr ⟨_, get_mem HX.out.1, hk⟩)))
    have HFX := Lib.hid (show fx.v.oneCell' = true by rw [HFV.out.1]; rfl)
    obtain ⟨la, lc, hlv⟩ := H6.out.lst.slice
    subst hlv
    obtain ⟨n, hnn⟩ : ∃ n, es1.length = n := ⟨_, rfl⟩
    have HNN := Lib.hid hnn
    have c0 : w6.cell? ⟨r, 0, none⟩ = some (.slice la n lc) := by rw [← hnn]; exact H6.out.row.cell (i := 0) rfl
    rw [hnn] at hlen1
    have hqle := pos_le p es1
    obtain ⟨i, hq⟩ : ∃ q, pos p es1 = q := ⟨_, rfl⟩
    have HQ := Lib.hid hq
    rw [hq, hnn] at hqle
    rw [hq]
    have HPP : Hid (∀ e ∈ put p fx es1, e.1.length ≤ 600) := Lib.hid fun e he => by
      rcases mem_put.1 he with rfl | ⟨he, -⟩
      · have := HOK.out.2; unfold okP at this; exact (of_decide_eq_true this).2
      · exact H6.out.pl e he
    have HFOOT : Hid (∀ k, (∃ e ∈ put p fx es1, e.2.v.ownBlock = some k) → S k) := Lib.hid fun k ⟨e, he, hk⟩ => by
      rcases mem_put.1 he with rfl | ⟨he, -⟩
      · exact HXS.out k hk
      · exact HS.out.1 k (.inr (.inr ⟨e, HSUB.out e he, hk⟩))
    clear hnn hq x6 hr6 hfx
    cases hx2 : get p es1 with
    | none =>
      have HX2 := Lib.hid hx2
      clear hx2
      have hput : es1.take i ++ (p, fx) :: es1.drop i = put p fx es1 := by
        rw [(placed p H6.out.up).2.1 fx]
        unfold Dk.one
        rw [HX2.out, HQ.out]; rfl
      have HPUT := Lib.hid hput
      have HUP := Lib.hid (show Up (es1.take i ++ (p, fx) :: es1.drop i) by rw [hput]; exact put_up H6.out.up)
      have HFI : Hid (∀ w', Chg (fun b => w6.heap.size ≤ b) w6 w' → ∀ e ∈ es1.take i ++ (p, fx) :: es1.drop i, Own w' 0 5 e.2.v (bvs e.2.f.b)) := Lib.hid fun w' hc e he => by
        rw [HPUT.out] at he
        rcases mem_put.1 he with rfl | ⟨he, -⟩
        · exact HXF.out.chg hc fun b hb hk => by have := HXF.out.lt hb; omega
        · exact (H6.out.file e he).chg hc fun b hb hk => by have := (H6.out.file e he).lt hb; omega
      have HPP : Hid (∀ e ∈ es1.take i ++ (p, fx) :: es1.drop i, e.1.length ≤ 600) := Lib.hid fun e he => by
        rw [HPUT.out] at he
        exact HPP.out e he
      clear hput
      have FINR : Hid (∀ w8, (∃ lv', RRaw w8 r rf lv' (es1.take i ++ (p, fx) :: es1.drop i) { d6 with fs := rfils (es1.take i ++ (p, fx) :: es1.drop i) } ∧ ∀ b, lv'.ownBlock = some b → w6.heap.size ≤ b) ∧ Chg (fun b => b = r) w6 w8 → RefOut r rf S w (renames z d a p) (.returned (.int .i64 0)) w8) := Lib.hid fun w8 ⟨⟨lv', h8, hfr⟩, hc8⟩ => by
        have hz8 := HZ6.out.chg hc8 fun b hb e => HS.out.2.2.1 b hb (by rw [e]; exact HS.out.1 r (.inl rfl))
        have hg8 := HG6.out.trans (hc8.mono fun b _ hb => by rw [hb]; exact .inl (HS.out.1 r (.inl rfl)))
        rw [HPUT.out, show rfils (put p fx es1) = put p fx.f (del a d.fs) by rw [HFS1.out]; exact (put_mapv (fun y : REnt => y.f) p fx es1).symm, ← HD6.out] at h8
        unfold RefOut
        rw [HR.out]
        refine ⟨rfl, hz8, h8.refAt (fun b hb => ?_) HS.out.2.1 HS.out.2.2.1 HS.out.2.2.2 hg8.size, hg8⟩
        rcases hb with hb | hb | hb
        · exact .inl (HS.out.1 b (.inl hb))
        · exact .inr ⟨Nat.le_trans HG6.out.size (hfr b hb), h8.lst.lt hb⟩
        · exact .inl (HFOOT.out b hb)
      go_wp2_with fail
      rcases H6.out.lst.forms.2 with ⟨hlv, hn0, -⟩ | ⟨g, cap, cur, hlv, -, -, hcap, -⟩
      · simp only [Value.slice.injEq] at hlv
        obtain ⟨rfl, -, rfl⟩ := hlv
        have hn1 : n = 0 := by rw [← HNN.out]; exact hn0
        subst hn1
        obtain rfl : i = 0 := by omega
        have SRC1 : Hid (∀ w', Chg (fun b => w6.heap.size ≤ b) w6 w' → Src Tryz.prog 3 190 (.slice none 0 0) 0 (rcells (es1.take 0)) w') := Lib.hid fun w' hc => H6.out.src1 0 (Nat.zero_le _) w' hc
        have SRC2 : Hid (∀ w', Chg (fun b => w6.heap.size ≤ b) w6 w' → Src Tryz.prog 3 190 (.slice none 0 0) (0 - 0) (rcells (es1.drop 0)) w') := Lib.hid fun w' hc => by
          have he : es1 = [] := List.eq_nil_of_length_eq_zero HNN.out
          rw [he]
          exact Src.ofNil w' Tryz.underlying190 0
        have NL1 : Hid ((rcells (es1.take 0)).length = 0 * 3) := Lib.hid (by rw [rcells_length, List.length_take, HNN.out]; rfl)
        have NL2 : Hid ((rcells (es1.drop 0)).length = (0 - 0) * 3) := Lib.hid (by rw [rcells_length, List.length_drop, HNN.out])
        have hS : (fun w' : World => w'.cell? ⟨r, 0, none⟩ = some (.slice none 0 0) ∧ w'.cell? ⟨fb, 0, none⟩ = some (.string (bstr p)) ∧ w'.cell? ⟨fb, 1, none⟩ = some (.slice xa xl xc) ∧ w'.cell? ⟨fb, 2, none⟩ = some (.bool sv)) w6.drew := ⟨c0, f0, f1, f2⟩
        refine wp_cut [58, 59, 60, 61, 62, 63, 64, 65, 66, 67, 68, 69, 70, 71, 72, 73, 74, 75, 76, 77] (fun w8 => (∃ lv', RRaw w8 r rf lv' (es1.take 0 ++ (p, fx) :: es1.drop 0) { d6 with fs := rfils (es1.take 0 ++ (p, fx) :: es1.drop 0) } ∧ ∀ b, lv'.ownBlock = some b → w6.heap.size ≤ b) ∧ Chg (fun b => b = r) w6 w8) ?_ ?_
        · refine wp_region_U (fun w' : World => w'.cell? ⟨r, 0, none⟩ = some (.slice none 0 0) ∧ w'.cell? ⟨fb, 0, none⟩ = some (.string (bstr p)) ∧ w'.cell? ⟨fb, 1, none⟩ = some (.slice xa xl xc) ∧ w'.cell? ⟨fb, 2, none⟩ = some (.bool sv)) 20 (by kernel_rfl) ?_
          refine wpU_pureH (i := 0) (j := 58) (v := ?_) rfl rfl (by kernel_rfl) (by kernel_rfl) (by kernel_rfl) (by decide) (fun _ _ _ h => h) (fun _ => hS) (Or.inl ⟨by kernel_rfl, fun _ _ => ?_⟩) ?_
          rotate_left
          · go_simp
            try with_reducible rfl
          refine wpU_pureH (i := 1) (j := 59) (v := ?_) rfl rfl (by kernel_rfl) (by kernel_rfl) (by kernel_rfl) (by decide) (fun _ _ _ h => h) (fun _ => hS) (Or.inl ⟨by kernel_rfl, fun _ _ => ?_⟩) ?_
          rotate_left
          · go_simp
            try with_reducible rfl
          refine wpU_pureH (i := 2) (j := 60) (v := ?_) rfl rfl (by kernel_rfl) (by kernel_rfl) (by kernel_rfl) (by decide) (fun _ _ _ h => h) (fun _ => hS) (Or.inl ⟨by kernel_rfl, fun _ _ => ?_⟩) ?_
          rotate_left
          · go_simp
            try with_reducible rfl
          refine wpU_pureH (i := 3) (j := 61) (v := ?_) rfl rfl (by kernel_rfl) (by kernel_rfl) (by kernel_rfl) (by decide) (fun _ _ _ h => h) (fun _ => hS) (Or.inl ⟨by kernel_rfl, fun _ _ => ?_⟩) ?_
          rotate_left
          · go_simp
            try with_reducible rfl
          refine wpU_loadH (i := 4) (j := 62) (v := ?_) rfl rfl (by kernel_rfl) (by kernel_rfl) (by kernel_rfl) (by decide) (by kernel_rfl) (by kernel_rfl) (fun _ _ _ h => h) hS (Or.inl ⟨by kernel_rfl, fun wl hl => ?_⟩) ?_
          rotate_left
          · obtain ⟨l0, l1, l2, l3⟩ := hl
            go_simp
            try with_reducible rfl
          refine wpU_pureH (i := 5) (j := 63) (v := ?_) rfl rfl (by kernel_rfl) (by kernel_rfl) (by kernel_rfl) (by decide) (fun _ _ _ h => h) (fun _ => hS) (Or.inl ⟨by kernel_rfl, fun _ _ => ?_⟩) ?_
          rotate_left
          · go_simp
            try with_reducible rfl
          refine wpU_pureH (i := 6) (j := 64) (v := ?_) rfl rfl (by kernel_rfl) (by kernel_rfl) (by kernel_rfl) (by decide) (fun _ _ _ h => h) (fun _ => hS) (Or.inl ⟨by kernel_rfl, fun _ _ => ?_⟩) ?_
          rotate_left
          · go_simp
            try with_reducible rfl
          refine wpU_loadH (i := 8) (j := 66) (v := ?_) rfl rfl (by kernel_rfl) (by kernel_rfl) (by kernel_rfl) (by decide) (by kernel_rfl) (by kernel_rfl) (fun _ _ _ h => h) hS (Or.inl ⟨by kernel_rfl, fun wl hl => ?_⟩) ?_
          rotate_left
          · obtain ⟨l0, l1, l2, l3⟩ := hl
            go_simp
            try with_reducible rfl
          refine wpU_pureH (i := 11) (j := 69) (v := ?_) rfl rfl (by kernel_rfl) (by kernel_rfl) (by kernel_rfl) (by decide) (fun _ _ _ h => h) (fun _ => hS) (Or.inl ⟨by kernel_rfl, fun _ _ => ?_⟩) ?_
          rotate_left
          · go_simp
            try with_reducible rfl
          refine wpU_pureH (i := 12) (j := 70) (v := ?_) rfl rfl (by kernel_rfl) (by kernel_rfl) (by kernel_rfl) (by decide) (fun _ _ _ h => h) (fun _ => hS) (Or.inl ⟨by kernel_rfl, fun _ _ => ?_⟩) ?_
          rotate_left
          · go_simp
            try with_reducible rfl
          refine wpU_pureH (i := 13) (j := 71) (v := ?_) rfl rfl (by kernel_rfl) (by kernel_rfl) (by kernel_rfl) (by decide) (fun _ _ _ h => h) (fun _ => hS) (Or.inl ⟨by kernel_rfl, fun _ _ => ?_⟩) ?_
          rotate_left
          · go_simp
            try with_reducible rfl
          refine wpU_loadH (i := 14) (j := 72) (v := ?_) rfl rfl (by kernel_rfl) (by kernel_rfl) (by kernel_rfl) (by decide) (by kernel_rfl) (by kernel_rfl) (fun _ _ _ h => h) hS (Or.inl ⟨by kernel_rfl, fun wl hl => ?_⟩) ?_
          rotate_left
          · obtain ⟨l0, l1, l2, l3⟩ := hl
            go_simp
            try with_reducible rfl
          refine wpU_pureH (i := 15) (j := 73) (v := ?_) rfl rfl (by kernel_rfl) (by kernel_rfl) (by kernel_rfl) (by decide) (fun _ _ _ h => h) (fun _ => hS) (Or.inl ⟨by kernel_rfl, fun _ _ => ?_⟩) ?_
          rotate_left
          · go_simp
            try with_reducible rfl
          refine wpU_pureH (i := 16) (j := 74) (v := ?_) rfl rfl (by kernel_rfl) (by kernel_rfl) (by kernel_rfl) (by decide) (fun _ _ _ h => h) (fun _ => hS) (Or.inl ⟨by kernel_rfl, fun _ _ => ?_⟩) ?_
          rotate_left
          · go_simp
            try with_reducible rfl
          refine wpU_all [7, 9] (by kernel_rfl) (by simp) ?_
          refine ReadyU.cons rfl (fun K hK => ?_) (ReadyU.cons rfl (fun K hK => ?_) ReadyU.nil)
          · have HB := Lib.hid (Chg.of_ext (Ext.of_drawn w6 1) (fun b => w6.heap.size ≤ b))
            refine step_of_wp rfl (wp_appk (B := w6.heap.size) _ _ 190 190 194 zrf 3 48 rfl Tryz.underlying190 info_rf rfl rfl (OwnK.nil _ _ _ _) (by go_simp) (SRC1.out _ HB.out) (by rw [NL1.out]) (by unfold maxLen; omega) (by omega) HB.out.size fun a1 k1 w7 ha => ?_)
            have hc7 := HB.out.trans ((Chg.refl (fun b => w6.heap.size ≤ b) _).grown ha.2.1 (fun k hk => by cases hk))
            have hS : (fun w' : World => w'.cell? ⟨r, 0, none⟩ = some (.slice none 0 0) ∧ w'.cell? ⟨fb, 0, none⟩ = some (.string (bstr p)) ∧ w'.cell? ⟨fb, 1, none⟩ = some (.slice xa xl xc) ∧ w'.cell? ⟨fb, 2, none⟩ = some (.bool sv)) w7 := ⟨hc7.cell c0 (show ¬ w6.heap.size ≤ r by omega), hc7.cell f0 (show ¬ w6.heap.size ≤ fb by omega), hc7.cell f1 (show ¬ w6.heap.size ≤ fb by omega), hc7.cell f2 (show ¬ w6.heap.size ≤ fb by omega)⟩
            refine hK.out _ _ (fun _ => hS) ?_
            refine wpU_putH (j := 65) rfl ?_
            clear hK K
            have HA1 := Lib.hid (And.intro ha.1 hc7)
            clear ha hc7
            refine wpU_all [9] (by kernel_rfl) (by simp) ?_
            refine ReadyU.cons rfl (fun K hK => ?_) ReadyU.nil
            have hc8 := HA1.out.2.alloc (.cells #[.string (bstr p), .slice xa xl xc, .bool sv] 194)
            have hS : (fun w' : World => w'.cell? ⟨r, 0, none⟩ = some (.slice none 0 0) ∧ w'.cell? ⟨fb, 0, none⟩ = some (.string (bstr p)) ∧ w'.cell? ⟨fb, 1, none⟩ = some (.slice xa xl xc) ∧ w'.cell? ⟨fb, 2, none⟩ = some (.bool sv)) (w7.alloc (.cells #[.string (bstr p), .slice xa xl xc, .bool sv] 194)) := ⟨hc8.cell c0 (show ¬ w6.heap.size ≤ r by omega), hc8.cell f0 (show ¬ w6.heap.size ≤ fb by omega), hc8.cell f1 (show ¬ w6.heap.size ≤ fb by omega), hc8.cell f2 (show ¬ w6.heap.size ≤ fb by omega)⟩
            have hq := one_src w7 p fx HFX.out _ (Chg.refl _ _)
            rw [HFV.out.1, HFV.out.2] at hq
            have HA := Lib.hid (And.intro (HA1.out.1.ext ((Ext.refl w7).alloc (Nat.le_refl _) (.cells #[.string (bstr p), .slice xa xl xc, .bool sv] 194))) (And.intro hq hc8))
            simp only [List.set_cons_zero, List.set_cons_succ]
            go_simp
            refine hK.out _ _ (fun _ => hS) ?_
            clear hK K hc8 hq
            refine wpU_all [10] (by kernel_rfl) (by simp) ?_
            refine ReadyU.cons rfl (fun K hK => ?_) ReadyU.nil
            refine step_of_wp rfl (wp_appk (B := w6.heap.size) _ _ 190 190 194 zrf 3 48 rfl Tryz.underlying190 info_rf rfl (by go_simp) HA.out.1 (by go_simp) HA.out.2.1 (by rfl) (by unfold maxLen; omega) (by omega) HA.out.2.2.size fun a2 k2 w9 ha => ?_)
            have hc9 : Chg (fun b => w6.heap.size ≤ b) w6 w9 := HA.out.2.2.trans ((Chg.refl (fun b => w6.heap.size ≤ b) _).grown ha.2.1 (fun k hk => .inl (HA.out.1.block k hk)))
            have hS : (fun w' : World => w'.cell? ⟨r, 0, none⟩ = some (.slice none 0 0) ∧ w'.cell? ⟨fb, 0, none⟩ = some (.string (bstr p)) ∧ w'.cell? ⟨fb, 1, none⟩ = some (.slice xa xl xc) ∧ w'.cell? ⟨fb, 2, none⟩ = some (.bool sv)) w9 := ⟨hc9.cell c0 (show ¬ w6.heap.size ≤ r by omega), hc9.cell f0 (show ¬ w6.heap.size ≤ fb by omega), hc9.cell f1 (show ¬ w6.heap.size ≤ fb by omega), hc9.cell f2 (show ¬ w6.heap.size ≤ fb by omega)⟩
            refine hK.out _ _ (fun _ => hS) ?_
            refine wpU_putH (j := 68) rfl ?_
            clear hK K
            have HA2 := Lib.hid (And.intro ha.1 hc9)
            clear ha hc9
            refine wpU_all [17] (by kernel_rfl) (by simp) ?_
            refine ReadyU.cons rfl (fun K hK => ?_) ReadyU.nil
            refine step_of_wp rfl (wp_appk (B := w6.heap.size) _ _ 190 190 194 zrf 3 48 rfl Tryz.underlying190 info_rf rfl (by go_simp) HA2.out.1 (by go_simp) (SRC2.out _ HA2.out.2) (by rw [NL2.out]) (by unfold maxLen; omega) (by omega) HA2.out.2.size fun a3 k3 wa ha => ?_)
            have hca : Chg (fun b => w6.heap.size ≤ b) w6 wa := HA2.out.2.trans ((Chg.refl (fun b => w6.heap.size ≤ b) _).grown ha.2.1 (fun k hk => .inl (HA2.out.1.block k hk)))
            have hS : (fun w' : World => w'.cell? ⟨r, 0, none⟩ = some (.slice none 0 0) ∧ w'.cell? ⟨fb, 0, none⟩ = some (.string (bstr p)) ∧ w'.cell? ⟨fb, 1, none⟩ = some (.slice xa xl xc) ∧ w'.cell? ⟨fb, 2, none⟩ = some (.bool sv)) wa := ⟨hca.cell c0 (show ¬ w6.heap.size ≤ r by omega), hca.cell f0 (show ¬ w6.heap.size ≤ fb by omega), hca.cell f1 (show ¬ w6.heap.size ≤ fb by omega), hca.cell f2 (show ¬ w6.heap.size ≤ fb by omega)⟩
            have ua := hca.unfrozen c0 u0 (show ¬ w6.heap.size ≤ r by omega)
            refine hK.out _ _ (fun _ => hS) ?_
            refine wpU_putH (j := 75) rfl ?_
            clear hK K
            have hll : (es1.take 0 ++ (p, fx) :: es1.drop 0).length = 0 + 0 + 1 + (0 - 0) := by  rw [List.length_append, List.length_cons, List.length_take, List.length_drop, HNN.out]; omega
            have ho := ha.1
            have ecs : (([] ++ rcells (List.take 0 es1)) ++ rc (p, fx)) ++ rcells (List.drop 0 es1) = rcells (es1.take 0 ++ (p, fx) :: es1.drop 0) := by  rw [List.nil_append, rcells_append, rcells_cons, List.append_assoc]
            rw [ecs, ← hll] at ho
            have FIN := H6.out.relist hca ho HUP.out (HFI.out _ hca) HPP.out
            rw [Nat.zero_add] at hll
            rw [hll] at FIN
            have FIN := Lib.hid FIN
            clear ha hca ho ecs hll
            refine wpU_pureH (i := 18) (j := 76) (v := ?_) rfl rfl (by kernel_rfl) (by kernel_rfl) (by kernel_rfl) (by decide) (fun _ _ _ h => h) (fun _ => hS) (Or.inl ⟨by kernel_rfl, fun _ _ => ?_⟩) ?_
            rotate_left
            · go_simp
              try with_reducible rfl
            refine wpU_pureH (i := 19) (j := 77) (v := ?_) rfl rfl (by kernel_rfl) (by kernel_rfl) (by kernel_rfl) (by decide) (fun _ _ _ h => h) (fun _ => hS) (Or.inl ⟨by kernel_rfl, fun _ _ => ?_⟩) ?_
            rotate_left
            · go_simp
              try with_reducible rfl
            refine wpU_all [20] (by kernel_rfl) (by simp) ?_
            refine ReadyU.cons rfl (fun K hK => ?_) ReadyU.nil
            simp only [List.set_cons_zero, List.set_cons_succ]
            go_simp
            refine hK.out _ _ (fun h => Bool.noConfusion (show true = false from h)) ?_
            clear hK K
            refine wpU_done (by kernel_rfl) ?_ _
            exact cut_end ⟨⟨_, FIN.out.1, FIN.out.2.1⟩, FIN.out.2.2⟩ (by kernel_rfl)
          · have hc8 := (Chg.of_ext (Ext.of_drawn w6 1) (fun b => w6.heap.size ≤ b)).alloc (.cells #[.string (bstr p), .slice xa xl xc, .bool sv] 194)
            have hS : (fun w' : World => w'.cell? ⟨r, 0, none⟩ = some (.slice none 0 0) ∧ w'.cell? ⟨fb, 0, none⟩ = some (.string (bstr p)) ∧ w'.cell? ⟨fb, 1, none⟩ = some (.slice xa xl xc) ∧ w'.cell? ⟨fb, 2, none⟩ = some (.bool sv)) (w6.drew.alloc (.cells #[.string (bstr p), .slice xa xl xc, .bool sv] 194)) := ⟨hc8.cell c0 (show ¬ w6.heap.size ≤ r by omega), hc8.cell f0 (show ¬ w6.heap.size ≤ fb by omega), hc8.cell f1 (show ¬ w6.heap.size ≤ fb by omega), hc8.cell f2 (show ¬ w6.heap.size ≤ fb by omega)⟩
            have hq := one_src w6.drew p fx HFX.out
            rw [HFV.out.1, HFV.out.2] at hq
            simp only [List.set_cons_zero, List.set_cons_succ]
            go_simp
            refine hK.out _ _ (fun _ => hS) ?_
            have HB := Lib.hid hc8
            have HQ := Lib.hid hq
            clear hK K hc8 hq
            refine wpU_all [7] (by kernel_rfl) (by simp) ?_
            refine ReadyU.cons rfl (fun K hK => ?_) ReadyU.nil
            refine step_of_wp rfl (wp_appk (B := w6.heap.size) _ _ 190 190 194 zrf 3 48 rfl Tryz.underlying190 info_rf rfl rfl (OwnK.nil _ _ _ _) (by go_simp) (SRC1.out _ HB.out) (by rw [NL1.out]) (by unfold maxLen; omega) (by omega) HB.out.size fun a1 k1 w7 ha => ?_)
            have hc7 := HB.out.trans ((Chg.refl (fun b => w6.heap.size ≤ b) _).grown ha.2.1 (fun k hk => by cases hk))
            have hS : (fun w' : World => w'.cell? ⟨r, 0, none⟩ = some (.slice none 0 0) ∧ w'.cell? ⟨fb, 0, none⟩ = some (.string (bstr p)) ∧ w'.cell? ⟨fb, 1, none⟩ = some (.slice xa xl xc) ∧ w'.cell? ⟨fb, 2, none⟩ = some (.bool sv)) w7 := ⟨hc7.cell c0 (show ¬ w6.heap.size ≤ r by omega), hc7.cell f0 (show ¬ w6.heap.size ≤ fb by omega), hc7.cell f1 (show ¬ w6.heap.size ≤ fb by omega), hc7.cell f2 (show ¬ w6.heap.size ≤ fb by omega)⟩
            refine hK.out _ _ (fun _ => hS) ?_
            refine wpU_putH (j := 65) rfl ?_
            clear hK K
            have HA := Lib.hid (And.intro ha.1 (And.intro (HQ.out w7 ((Chg.refl _ _).grown ha.2.1 (fun k hk => by cases hk))) hc7))
            clear ha hc7
            refine wpU_all [10] (by kernel_rfl) (by simp) ?_
            refine ReadyU.cons rfl (fun K hK => ?_) ReadyU.nil
            refine step_of_wp rfl (wp_appk (B := w6.heap.size) _ _ 190 190 194 zrf 3 48 rfl Tryz.underlying190 info_rf rfl (by go_simp) HA.out.1 (by go_simp) HA.out.2.1 (by rfl) (by unfold maxLen; omega) (by omega) HA.out.2.2.size fun a2 k2 w9 ha => ?_)
            have hc9 : Chg (fun b => w6.heap.size ≤ b) w6 w9 := HA.out.2.2.trans ((Chg.refl (fun b => w6.heap.size ≤ b) _).grown ha.2.1 (fun k hk => .inl (HA.out.1.block k hk)))
            have hS : (fun w' : World => w'.cell? ⟨r, 0, none⟩ = some (.slice none 0 0) ∧ w'.cell? ⟨fb, 0, none⟩ = some (.string (bstr p)) ∧ w'.cell? ⟨fb, 1, none⟩ = some (.slice xa xl xc) ∧ w'.cell? ⟨fb, 2, none⟩ = some (.bool sv)) w9 := ⟨hc9.cell c0 (show ¬ w6.heap.size ≤ r by omega), hc9.cell f0 (show ¬ w6.heap.size ≤ fb by omega), hc9.cell f1 (show ¬ w6.heap.size ≤ fb by omega), hc9.cell f2 (show ¬ w6.heap.size ≤ fb by omega)⟩
            refine hK.out _ _ (fun _ => hS) ?_
            refine wpU_putH (j := 68) rfl ?_
            clear hK K
            have HA2 := Lib.hid (And.intro ha.1 hc9)
            clear ha hc9
            refine wpU_all [17] (by kernel_rfl) (by simp) ?_
            refine ReadyU.cons rfl (fun K hK => ?_) ReadyU.nil
            refine step_of_wp rfl (wp_appk (B := w6.heap.size) _ _ 190 190 194 zrf 3 48 rfl Tryz.underlying190 info_rf rfl (by go_simp) HA2.out.1 (by go_simp) (SRC2.out _ HA2.out.2) (by rw [NL2.out]) (by unfold maxLen; omega) (by omega) HA2.out.2.size fun a3 k3 wa ha => ?_)
            have hca : Chg (fun b => w6.heap.size ≤ b) w6 wa := HA2.out.2.trans ((Chg.refl (fun b => w6.heap.size ≤ b) _).grown ha.2.1 (fun k hk => .inl (HA2.out.1.block k hk)))
            have hS : (fun w' : World => w'.cell? ⟨r, 0, none⟩ = some (.slice none 0 0) ∧ w'.cell? ⟨fb, 0, none⟩ = some (.string (bstr p)) ∧ w'.cell? ⟨fb, 1, none⟩ = some (.slice xa xl xc) ∧ w'.cell? ⟨fb, 2, none⟩ = some (.bool sv)) wa := ⟨hca.cell c0 (show ¬ w6.heap.size ≤ r by omega), hca.cell f0 (show ¬ w6.heap.size ≤ fb by omega), hca.cell f1 (show ¬ w6.heap.size ≤ fb by omega), hca.cell f2 (show ¬ w6.heap.size ≤ fb by omega)⟩
            have ua := hca.unfrozen c0 u0 (show ¬ w6.heap.size ≤ r by omega)
            refine hK.out _ _ (fun _ => hS) ?_
            refine wpU_putH (j := 75) rfl ?_
            clear hK K
            have hll : (es1.take 0 ++ (p, fx) :: es1.drop 0).length = 0 + 0 + 1 + (0 - 0) := by  rw [List.length_append, List.length_cons, List.length_take, List.length_drop, HNN.out]; omega
            have ho := ha.1
            have ecs : (([] ++ rcells (List.take 0 es1)) ++ rc (p, fx)) ++ rcells (List.drop 0 es1) = rcells (es1.take 0 ++ (p, fx) :: es1.drop 0) := by  rw [List.nil_append, rcells_append, rcells_cons, List.append_assoc]
            rw [ecs, ← hll] at ho
            have FIN := H6.out.relist hca ho HUP.out (HFI.out _ hca) HPP.out
            rw [Nat.zero_add] at hll
            rw [hll] at FIN
            have FIN := Lib.hid FIN
            clear ha hca ho ecs hll
            refine wpU_pureH (i := 18) (j := 76) (v := ?_) rfl rfl (by kernel_rfl) (by kernel_rfl) (by kernel_rfl) (by decide) (fun _ _ _ h => h) (fun _ => hS) (Or.inl ⟨by kernel_rfl, fun _ _ => ?_⟩) ?_
            rotate_left
            · go_simp
              try with_reducible rfl
            refine wpU_pureH (i := 19) (j := 77) (v := ?_) rfl rfl (by kernel_rfl) (by kernel_rfl) (by kernel_rfl) (by decide) (fun _ _ _ h => h) (fun _ => hS) (Or.inl ⟨by kernel_rfl, fun _ _ => ?_⟩) ?_
            rotate_left
            · go_simp
              try with_reducible rfl
            refine wpU_all [20] (by kernel_rfl) (by simp) ?_
            refine ReadyU.cons rfl (fun K hK => ?_) ReadyU.nil
            simp only [List.set_cons_zero, List.set_cons_succ]
            go_simp
            refine hK.out _ _ (fun h => Bool.noConfusion (show true = false from h)) ?_
            clear hK K
            refine wpU_done (by kernel_rfl) ?_ _
            exact cut_end ⟨⟨_, FIN.out.1, FIN.out.2.1⟩, FIN.out.2.2⟩ (by kernel_rfl)
        · intro us w8 h8
          have H8 := Lib.hid (FINR.out w8 h8)
          clear h8 hS c0 f0 f1 f2 u0
          simp only [setAll, List.foldl_cons, List.foldl_nil, List.set_cons_zero, List.set_cons_succ]
          go_wp2_with fail
          go_ret
          exact H8.out
      · simp only [Value.slice.injEq] at hlv
        obtain ⟨rfl, -, rfl⟩ := hlv
        rw [HNN.out] at hcap
        have SRC1 : Hid (∀ w', Chg (fun b => w6.heap.size ≤ b) w6 w' → Src Tryz.prog 3 190 (.slice (some ⟨g, 0, none⟩) i lc) i (rcells (es1.take i)) w') := Lib.hid fun w' hc => H6.out.src1 i (by rw [HNN.out]; exact hqle) w' hc
        obtain ⟨ad3, had⟩ : ∃ ad : Option Addr, (if lc = i then some ⟨g, 0, none⟩ else some ⟨g, i * 3, none⟩) = ad := ⟨_, rfl⟩
        have SRC2 : Hid (∀ w', Chg (fun b => w6.heap.size ≤ b) w6 w' → Src Tryz.prog 3 190 (.slice ad3 (n - i) (lc - i)) (n - i) (rcells (es1.drop i)) w') := Lib.hid fun w' hc => by
          have h1 := H6.out.src2 i (by rw [HNN.out]; exact hqle) (by rw [HNN.out]; exact hcap) w' hc
          rw [had, HNN.out] at h1
          exact h1
        have NL1 : Hid ((rcells (es1.take i)).length = i * 3) := Lib.hid (by rw [rcells_length, List.length_take, HNN.out]; congr 1; omega)
        have NL2 : Hid ((rcells (es1.drop i)).length = (n - i) * 3) := Lib.hid (by rw [rcells_length, List.length_drop, HNN.out])
        have hic : i ≤ lc := by omega
        have hi1 : (i : Int) ≤ (n : Int) := by omega
        have hi2 : (i : Int) ≤ (lc : Int) := by omega
        have hS : (fun w' : World => w'.cell? ⟨r, 0, none⟩ = some (.slice (some ⟨g, 0, none⟩) n lc) ∧ w'.cell? ⟨fb, 0, none⟩ = some (.string (bstr p)) ∧ w'.cell? ⟨fb, 1, none⟩ = some (.slice xa xl xc) ∧ w'.cell? ⟨fb, 2, none⟩ = some (.bool sv)) w6.drew := ⟨c0, f0, f1, f2⟩
        refine wp_cut [58, 59, 60, 61, 62, 63, 64, 65, 66, 67, 68, 69, 70, 71, 72, 73, 74, 75, 76, 77] (fun w8 => (∃ lv', RRaw w8 r rf lv' (es1.take i ++ (p, fx) :: es1.drop i) { d6 with fs := rfils (es1.take i ++ (p, fx) :: es1.drop i) } ∧ ∀ b, lv'.ownBlock = some b → w6.heap.size ≤ b) ∧ Chg (fun b => b = r) w6 w8) ?_ ?_
        · refine wp_region_U (fun w' : World => w'.cell? ⟨r, 0, none⟩ = some (.slice (some ⟨g, 0, none⟩) n lc) ∧ w'.cell? ⟨fb, 0, none⟩ = some (.string (bstr p)) ∧ w'.cell? ⟨fb, 1, none⟩ = some (.slice xa xl xc) ∧ w'.cell? ⟨fb, 2, none⟩ = some (.bool sv)) 20 (by kernel_rfl) ?_
          refine wpU_pureH (i := 0) (j := 58) (v := ?_) rfl rfl (by kernel_rfl) (by kernel_rfl) (by kernel_rfl) (by decide) (fun _ _ _ h => h) (fun _ => hS) (Or.inl ⟨by kernel_rfl, fun _ _ => ?_⟩) ?_
          rotate_left
          · go_simp
            try with_reducible rfl
          refine wpU_pureH (i := 1) (j := 59) (v := ?_) rfl rfl (by kernel_rfl) (by kernel_rfl) (by kernel_rfl) (by decide) (fun _ _ _ h => h) (fun _ => hS) (Or.inl ⟨by kernel_rfl, fun _ _ => ?_⟩) ?_
          rotate_left
          · go_simp
            try with_reducible rfl
          refine wpU_pureH (i := 2) (j := 60) (v := ?_) rfl rfl (by kernel_rfl) (by kernel_rfl) (by kernel_rfl) (by decide) (fun _ _ _ h => h) (fun _ => hS) (Or.inl ⟨by kernel_rfl, fun _ _ => ?_⟩) ?_
          rotate_left
          · go_simp
            try with_reducible rfl
          refine wpU_pureH (i := 3) (j := 61) (v := ?_) rfl rfl (by kernel_rfl) (by kernel_rfl) (by kernel_rfl) (by decide) (fun _ _ _ h => h) (fun _ => hS) (Or.inl ⟨by kernel_rfl, fun _ _ => ?_⟩) ?_
          rotate_left
          · go_simp
            try with_reducible rfl
          refine wpU_loadH (i := 4) (j := 62) (v := ?_) rfl rfl (by kernel_rfl) (by kernel_rfl) (by kernel_rfl) (by decide) (by kernel_rfl) (by kernel_rfl) (fun _ _ _ h => h) hS (Or.inl ⟨by kernel_rfl, fun wl hl => ?_⟩) ?_
          rotate_left
          · obtain ⟨l0, l1, l2, l3⟩ := hl
            go_simp
            try with_reducible rfl
          refine wpU_pureH (i := 5) (j := 63) (v := ?_) rfl rfl (by kernel_rfl) (by kernel_rfl) (by kernel_rfl) (by decide) (fun _ _ _ h => h) (fun _ => hS) (Or.inl ⟨by kernel_rfl, fun _ _ => ?_⟩) ?_
          rotate_left
          · go_simp
            try with_reducible rfl
          refine wpU_pureH (i := 6) (j := 64) (v := ?_) rfl rfl (by kernel_rfl) (by kernel_rfl) (by kernel_rfl) (by decide) (fun _ _ _ h => h) (fun _ => hS) (Or.inl ⟨by kernel_rfl, fun _ _ => ?_⟩) ?_
          rotate_left
          · go_simp
            try with_reducible rfl
          refine wpU_loadH (i := 8) (j := 66) (v := ?_) rfl rfl (by kernel_rfl) (by kernel_rfl) (by kernel_rfl) (by decide) (by kernel_rfl) (by kernel_rfl) (fun _ _ _ h => h) hS (Or.inl ⟨by kernel_rfl, fun wl hl => ?_⟩) ?_
          rotate_left
          · obtain ⟨l0, l1, l2, l3⟩ := hl
            go_simp
            try with_reducible rfl
          refine wpU_pureH (i := 11) (j := 69) (v := ?_) rfl rfl (by kernel_rfl) (by kernel_rfl) (by kernel_rfl) (by decide) (fun _ _ _ h => h) (fun _ => hS) (Or.inl ⟨by kernel_rfl, fun _ _ => ?_⟩) ?_
          rotate_left
          · go_simp
            try with_reducible rfl
          refine wpU_pureH (i := 12) (j := 70) (v := ?_) rfl rfl (by kernel_rfl) (by kernel_rfl) (by kernel_rfl) (by decide) (fun _ _ _ h => h) (fun _ => hS) (Or.inl ⟨by kernel_rfl, fun _ _ => ?_⟩) ?_
          rotate_left
          · go_simp
            try with_reducible rfl
          refine wpU_pureH (i := 13) (j := 71) (v := ?_) rfl rfl (by kernel_rfl) (by kernel_rfl) (by kernel_rfl) (by decide) (fun _ _ _ h => h) (fun _ => hS) (Or.inl ⟨by kernel_rfl, fun _ _ => ?_⟩) ?_
          rotate_left
          · go_simp
            try with_reducible rfl
          refine wpU_loadH (i := 14) (j := 72) (v := ?_) rfl rfl (by kernel_rfl) (by kernel_rfl) (by kernel_rfl) (by decide) (by kernel_rfl) (by kernel_rfl) (fun _ _ _ h => h) hS (Or.inl ⟨by kernel_rfl, fun wl hl => ?_⟩) ?_
          rotate_left
          · obtain ⟨l0, l1, l2, l3⟩ := hl
            go_simp
            try with_reducible rfl
          refine wpU_pureH (i := 15) (j := 73) (v := ?_) rfl rfl (by kernel_rfl) (by kernel_rfl) (by kernel_rfl) (by decide) (fun _ _ _ h => h) (fun _ => hS) (Or.inl ⟨by kernel_rfl, fun _ _ => ?_⟩) ?_
          rotate_left
          · go_simp
            try with_reducible rfl
          refine wpU_pureH (i := 16) (j := 74) (v := ?_) rfl rfl (by kernel_rfl) (by kernel_rfl) (by kernel_rfl) (by decide) (fun _ _ _ h => h) (fun _ => hS) (Or.inl ⟨by kernel_rfl, fun _ _ => ?_⟩) ?_
          rotate_left
          · go_simp
            try with_reducible rfl
          refine wpU_all [7, 9] (by kernel_rfl) (by simp) ?_
          refine ReadyU.cons rfl (fun K hK => ?_) (ReadyU.cons rfl (fun K hK => ?_) ReadyU.nil)
          · have HB := Lib.hid (Chg.of_ext (Ext.of_drawn w6 1) (fun b => w6.heap.size ≤ b))
            refine step_of_wp rfl (wp_appk (B := w6.heap.size) _ _ 190 190 194 zrf 3 48 rfl Tryz.underlying190 info_rf rfl rfl (OwnK.nil _ _ _ _) (by go_simp) (SRC1.out _ HB.out) (by rw [NL1.out]) (by unfold maxLen; omega) (by omega) HB.out.size fun a1 k1 w7 ha => ?_)
            have hc7 := HB.out.trans ((Chg.refl (fun b => w6.heap.size ≤ b) _).grown ha.2.1 (fun k hk => by cases hk))
            have hS : (fun w' : World => w'.cell? ⟨r, 0, none⟩ = some (.slice (some ⟨g, 0, none⟩) n lc) ∧ w'.cell? ⟨fb, 0, none⟩ = some (.string (bstr p)) ∧ w'.cell? ⟨fb, 1, none⟩ = some (.slice xa xl xc) ∧ w'.cell? ⟨fb, 2, none⟩ = some (.bool sv)) w7 := ⟨hc7.cell c0 (show ¬ w6.heap.size ≤ r by omega), hc7.cell f0 (show ¬ w6.heap.size ≤ fb by omega), hc7.cell f1 (show ¬ w6.heap.size ≤ fb by omega), hc7.cell f2 (show ¬ w6.heap.size ≤ fb by omega)⟩
            refine hK.out _ _ (fun _ => hS) ?_
            refine wpU_putH (j := 65) rfl ?_
            clear hK K
            have HA1 := Lib.hid (And.intro ha.1 hc7)
            clear ha hc7
            refine wpU_all [9] (by kernel_rfl) (by simp) ?_
            refine ReadyU.cons rfl (fun K hK => ?_) ReadyU.nil
            have hc8 := HA1.out.2.alloc (.cells #[.string (bstr p), .slice xa xl xc, .bool sv] 194)
            have hS : (fun w' : World => w'.cell? ⟨r, 0, none⟩ = some (.slice (some ⟨g, 0, none⟩) n lc) ∧ w'.cell? ⟨fb, 0, none⟩ = some (.string (bstr p)) ∧ w'.cell? ⟨fb, 1, none⟩ = some (.slice xa xl xc) ∧ w'.cell? ⟨fb, 2, none⟩ = some (.bool sv)) (w7.alloc (.cells #[.string (bstr p), .slice xa xl xc, .bool sv] 194)) := ⟨hc8.cell c0 (show ¬ w6.heap.size ≤ r by omega), hc8.cell f0 (show ¬ w6.heap.size ≤ fb by omega), hc8.cell f1 (show ¬ w6.heap.size ≤ fb by omega), hc8.cell f2 (show ¬ w6.heap.size ≤ fb by omega)⟩
            have hq := one_src w7 p fx HFX.out _ (Chg.refl _ _)
            rw [HFV.out.1, HFV.out.2] at hq
            have HA := Lib.hid (And.intro (HA1.out.1.ext ((Ext.refl w7).alloc (Nat.le_refl _) (.cells #[.string (bstr p), .slice xa xl xc, .bool sv] 194))) (And.intro hq hc8))
            simp only [List.set_cons_zero, List.set_cons_succ]
            go_simp
            refine hK.out _ _ (fun _ => hS) ?_
            clear hK K hc8 hq
            refine wpU_all [10] (by kernel_rfl) (by simp) ?_
            refine ReadyU.cons rfl (fun K hK => ?_) ReadyU.nil
            refine step_of_wp rfl (wp_appk (B := w6.heap.size) _ _ 190 190 194 zrf 3 48 rfl Tryz.underlying190 info_rf rfl (by go_simp) HA.out.1 (by go_simp) HA.out.2.1 (by rfl) (by unfold maxLen; omega) (by omega) HA.out.2.2.size fun a2 k2 w9 ha => ?_)
            have hc9 : Chg (fun b => w6.heap.size ≤ b) w6 w9 := HA.out.2.2.trans ((Chg.refl (fun b => w6.heap.size ≤ b) _).grown ha.2.1 (fun k hk => .inl (HA.out.1.block k hk)))
            have hS : (fun w' : World => w'.cell? ⟨r, 0, none⟩ = some (.slice (some ⟨g, 0, none⟩) n lc) ∧ w'.cell? ⟨fb, 0, none⟩ = some (.string (bstr p)) ∧ w'.cell? ⟨fb, 1, none⟩ = some (.slice xa xl xc) ∧ w'.cell? ⟨fb, 2, none⟩ = some (.bool sv)) w9 := ⟨hc9.cell c0 (show ¬ w6.heap.size ≤ r by omega), hc9.cell f0 (show ¬ w6.heap.size ≤ fb by omega), hc9.cell f1 (show ¬ w6.heap.size ≤ fb by omega), hc9.cell f2 (show ¬ w6.heap.size ≤ fb by omega)⟩
            refine hK.out _ _ (fun _ => hS) ?_
            refine wpU_putH (j := 68) rfl ?_
            clear hK K
            have HA2 := Lib.hid (And.intro ha.1 hc9)
            clear ha hc9
            refine wpU_all [17] (by kernel_rfl) (by simp) ?_
            refine ReadyU.cons rfl (fun K hK => ?_) ReadyU.nil
            refine step_of_wp rfl (wp_appk (B := w6.heap.size) _ _ 190 190 194 zrf 3 48 rfl Tryz.underlying190 info_rf rfl (by go_simp) HA2.out.1 (by go_simp) (SRC2.out _ HA2.out.2) (by rw [NL2.out]) (by unfold maxLen; omega) (by omega) HA2.out.2.size fun a3 k3 wa ha => ?_)
            have hca : Chg (fun b => w6.heap.size ≤ b) w6 wa := HA2.out.2.trans ((Chg.refl (fun b => w6.heap.size ≤ b) _).grown ha.2.1 (fun k hk => .inl (HA2.out.1.block k hk)))
            have hS : (fun w' : World => w'.cell? ⟨r, 0, none⟩ = some (.slice (some ⟨g, 0, none⟩) n lc) ∧ w'.cell? ⟨fb, 0, none⟩ = some (.string (bstr p)) ∧ w'.cell? ⟨fb, 1, none⟩ = some (.slice xa xl xc) ∧ w'.cell? ⟨fb, 2, none⟩ = some (.bool sv)) wa := ⟨hca.cell c0 (show ¬ w6.heap.size ≤ r by omega), hca.cell f0 (show ¬ w6.heap.size ≤ fb by omega), hca.cell f1 (show ¬ w6.heap.size ≤ fb by omega), hca.cell f2 (show ¬ w6.heap.size ≤ fb by omega)⟩
            have ua := hca.unfrozen c0 u0 (show ¬ w6.heap.size ≤ r by omega)
            refine hK.out _ _ (fun _ => hS) ?_
            refine wpU_putH (j := 75) rfl ?_
            clear hK K
            have hll : (es1.take i ++ (p, fx) :: es1.drop i).length = 0 + i + 1 + (n - i) := by  rw [List.length_append, List.length_cons, List.length_take, List.length_drop, HNN.out]; omega
            have ho := ha.1
            have ecs : (([] ++ rcells (List.take i es1)) ++ rc (p, fx)) ++ rcells (List.drop i es1) = rcells (es1.take i ++ (p, fx) :: es1.drop i) := by  rw [List.nil_append, rcells_append, rcells_cons, List.append_assoc]
            rw [ecs, ← hll] at ho
            have FIN := H6.out.relist hca ho HUP.out (HFI.out _ hca) HPP.out
            rw [Nat.zero_add] at hll
            rw [hll] at FIN
            have FIN := Lib.hid FIN
            clear ha hca ho ecs hll
            refine wpU_pureH (i := 18) (j := 76) (v := ?_) rfl rfl (by kernel_rfl) (by kernel_rfl) (by kernel_rfl) (by decide) (fun _ _ _ h => h) (fun _ => hS) (Or.inl ⟨by kernel_rfl, fun _ _ => ?_⟩) ?_
            rotate_left
            · go_simp
              try with_reducible rfl
            refine wpU_pureH (i := 19) (j := 77) (v := ?_) rfl rfl (by kernel_rfl) (by kernel_rfl) (by kernel_rfl) (by decide) (fun _ _ _ h => h) (fun _ => hS) (Or.inl ⟨by kernel_rfl, fun _ _ => ?_⟩) ?_
            rotate_left
            · go_simp
              try with_reducible rfl
            refine wpU_all [20] (by kernel_rfl) (by simp) ?_
            refine ReadyU.cons rfl (fun K hK => ?_) ReadyU.nil
            simp only [List.set_cons_zero, List.set_cons_succ]
            go_simp
            refine hK.out _ _ (fun h => Bool.noConfusion (show true = false from h)) ?_
            clear hK K
            refine wpU_done (by kernel_rfl) ?_ _
            exact cut_end ⟨⟨_, FIN.out.1, FIN.out.2.1⟩, FIN.out.2.2⟩ (by kernel_rfl)
          · have hc8 := (Chg.of_ext (Ext.of_drawn w6 1) (fun b => w6.heap.size ≤ b)).alloc (.cells #[.string (bstr p), .slice xa xl xc, .bool sv] 194)
            have hS : (fun w' : World => w'.cell? ⟨r, 0, none⟩ = some (.slice (some ⟨g, 0, none⟩) n lc) ∧ w'.cell? ⟨fb, 0, none⟩ = some (.string (bstr p)) ∧ w'.cell? ⟨fb, 1, none⟩ = some (.slice xa xl xc) ∧ w'.cell? ⟨fb, 2, none⟩ = some (.bool sv)) (w6.drew.alloc (.cells #[.string (bstr p), .slice xa xl xc, .bool sv] 194)) := ⟨hc8.cell c0 (show ¬ w6.heap.size ≤ r by omega), hc8.cell f0 (show ¬ w6.heap.size ≤ fb by omega), hc8.cell f1 (show ¬ w6.heap.size ≤ fb by omega), hc8.cell f2 (show ¬ w6.heap.size ≤ fb by omega)⟩
            have hq := one_src w6.drew p fx HFX.out
            rw [HFV.out.1, HFV.out.2] at hq
            simp only [List.set_cons_zero, List.set_cons_succ]
            go_simp
            refine hK.out _ _ (fun _ => hS) ?_
            have HB := Lib.hid hc8
            have HQ := Lib.hid hq
            clear hK K hc8 hq
            refine wpU_all [7] (by kernel_rfl) (by simp) ?_
            refine ReadyU.cons rfl (fun K hK => ?_) ReadyU.nil
            refine step_of_wp rfl (wp_appk (B := w6.heap.size) _ _ 190 190 194 zrf 3 48 rfl Tryz.underlying190 info_rf rfl rfl (OwnK.nil _ _ _ _) (by go_simp) (SRC1.out _ HB.out) (by rw [NL1.out]) (by unfold maxLen; omega) (by omega) HB.out.size fun a1 k1 w7 ha => ?_)
            have hc7 := HB.out.trans ((Chg.refl (fun b => w6.heap.size ≤ b) _).grown ha.2.1 (fun k hk => by cases hk))
            have hS : (fun w' : World => w'.cell? ⟨r, 0, none⟩ = some (.slice (some ⟨g, 0, none⟩) n lc) ∧ w'.cell? ⟨fb, 0, none⟩ = some (.string (bstr p)) ∧ w'.cell? ⟨fb, 1, none⟩ = some (.slice xa xl xc) ∧ w'.cell? ⟨fb, 2, none⟩ = some (.bool sv)) w7 := ⟨hc7.cell c0 (show ¬ w6.heap.size ≤ r by omega), hc7.cell f0 (show ¬ w6.heap.size ≤ fb by omega), hc7.cell f1 (show ¬ w6.heap.size ≤ fb by omega), hc7.cell f2 (show ¬ w6.heap.size ≤ fb by omega)⟩
            refine hK.out _ _ (fun _ => hS) ?_
            refine wpU_putH (j := 65) rfl ?_
            clear hK K
            have HA := Lib.hid (And.intro ha.1 (And.intro (HQ.out w7 ((Chg.refl _ _).grown ha.2.1 (fun k hk => by cases hk))) hc7))
            clear ha hc7
            refine wpU_all [10] (by kernel_rfl) (by simp) ?_
            refine ReadyU.cons rfl (fun K hK => ?_) ReadyU.nil
            refine step_of_wp rfl (wp_appk (B := w6.heap.size) _ _ 190 190 194 zrf 3 48 rfl Tryz.underlying190 info_rf rfl (by go_simp) HA.out.1 (by go_simp) HA.out.2.1 (by rfl) (by unfold maxLen; omega) (by omega) HA.out.2.2.size fun a2 k2 w9 ha => ?_)
            have hc9 : Chg (fun b => w6.heap.size ≤ b) w6 w9 := HA.out.2.2.trans ((Chg.refl (fun b => w6.heap.size ≤ b) _).grown ha.2.1 (fun k hk => .inl (HA.out.1.block k hk)))
            have hS : (fun w' : World => w'.cell? ⟨r, 0, none⟩ = some (.slice (some ⟨g, 0, none⟩) n lc) ∧ w'.cell? ⟨fb, 0, none⟩ = some (.string (bstr p)) ∧ w'.cell? ⟨fb, 1, none⟩ = some (.slice xa xl xc) ∧ w'.cell? ⟨fb, 2, none⟩ = some (.bool sv)) w9 := ⟨hc9.cell c0 (show ¬ w6.heap.size ≤ r by omega), hc9.cell f0 (show ¬ w6.heap.size ≤ fb by omega), hc9.cell f1 (show ¬ w6.heap.size ≤ fb by omega), hc9.cell f2 (show ¬ w6.heap.size ≤ fb by omega)⟩
            refine hK.out _ _ (fun _ => hS) ?_
            refine wpU_putH (j := 68) rfl ?_
            clear hK K
            have HA2 := Lib.hid (And.intro ha.1 hc9)
            clear ha hc9
            refine wpU_all [17] (by kernel_rfl) (by simp) ?_
            refine ReadyU.cons rfl (fun K hK => ?_) ReadyU.nil
            refine step_of_wp rfl (wp_appk (B := w6.heap.size) _ _ 190 190 194 zrf 3 48 rfl Tryz.underlying190 info_rf rfl (by go_simp) HA2.out.1 (by go_simp) (SRC2.out _ HA2.out.2) (by rw [NL2.out]) (by unfold maxLen; omega) (by omega) HA2.out.2.size fun a3 k3 wa ha => ?_)
            have hca : Chg (fun b => w6.heap.size ≤ b) w6 wa := HA2.out.2.trans ((Chg.refl (fun b => w6.heap.size ≤ b) _).grown ha.2.1 (fun k hk => .inl (HA2.out.1.block k hk)))
            have hS : (fun w' : World => w'.cell? ⟨r, 0, none⟩ = some (.slice (some ⟨g, 0, none⟩) n lc) ∧ w'.cell? ⟨fb, 0, none⟩ = some (.string (bstr p)) ∧ w'.cell? ⟨fb, 1, none⟩ = some (.slice xa xl xc) ∧ w'.cell? ⟨fb, 2, none⟩ = some (.bool sv)) wa := ⟨hca.cell c0 (show ¬ w6.heap.size ≤ r by omega), hca.cell f0 (show ¬ w6.heap.size ≤ fb by omega), hca.cell f1 (show ¬ w6.heap.size ≤ fb by omega), hca.cell f2 (show ¬ w6.heap.size ≤ fb by omega)⟩
            have ua := hca.unfrozen c0 u0 (show ¬ w6.heap.size ≤ r by omega)
            refine hK.out _ _ (fun _ => hS) ?_
            refine wpU_putH (j := 75) rfl ?_
            clear hK K
            have hll : (es1.take i ++ (p, fx) :: es1.drop i).length = 0 + i + 1 + (n - i) := by  rw [List.length_append, List.length_cons, List.length_take, List.length_drop, HNN.out]; omega
            have ho := ha.1
            have ecs : (([] ++ rcells (List.take i es1)) ++ rc (p, fx)) ++ rcells (List.drop i es1) = rcells (es1.take i ++ (p, fx) :: es1.drop i) := by  rw [List.nil_append, rcells_append, rcells_cons, List.append_assoc]
            rw [ecs, ← hll] at ho
            have FIN := H6.out.relist hca ho HUP.out (HFI.out _ hca) HPP.out
            rw [Nat.zero_add] at hll
            rw [hll] at FIN
            have FIN := Lib.hid FIN
            clear ha hca ho ecs hll
            refine wpU_pureH (i := 18) (j := 76) (v := ?_) rfl rfl (by kernel_rfl) (by kernel_rfl) (by kernel_rfl) (by decide) (fun _ _ _ h => h) (fun _ => hS) (Or.inl ⟨by kernel_rfl, fun _ _ => ?_⟩) ?_
            rotate_left
            · go_simp
              try with_reducible rfl
            refine wpU_pureH (i := 19) (j := 77) (v := ?_) rfl rfl (by kernel_rfl) (by kernel_rfl) (by kernel_rfl) (by decide) (fun _ _ _ h => h) (fun _ => hS) (Or.inl ⟨by kernel_rfl, fun _ _ => ?_⟩) ?_
            rotate_left
            · go_simp
              try with_reducible rfl
            refine wpU_all [20] (by kernel_rfl) (by simp) ?_
            refine ReadyU.cons rfl (fun K hK => ?_) ReadyU.nil
            simp only [List.set_cons_zero, List.set_cons_succ]
            go_simp
            refine hK.out _ _ (fun h => Bool.noConfusion (show true = false from h)) ?_
            clear hK K
            refine wpU_done (by kernel_rfl) ?_ _
            exact cut_end ⟨⟨_, FIN.out.1, FIN.out.2.1⟩, FIN.out.2.2⟩ (by kernel_rfl)
        · intro us w8 h8
          have H8 := Lib.hid (FINR.out w8 h8)
          clear h8 hS c0 f0 f1 f2 u0
          simp only [setAll, List.foldl_cons, List.foldl_nil, List.set_cons_zero, List.set_cons_succ]
          go_wp2_with fail
          go_ret
          exact H8.out
    | some y =>
      have HX2 := Lib.hid hx2
      obtain ⟨hpl, hpe⟩ := there_at H6.out.up hx2
      have hpl1 : i < n := by have := HQ.out; have := HNN.out; omega
      obtain ⟨g, cap6, hlv6, -, g0, g1, g2, gu⟩ := H6.out.entry (i := i) (by rw [HNN.out]; exact hpl1)
      cases hlv6
      obtain ⟨v0, hv0⟩ : ∃ v0, es1[i]'(by rw [HNN.out]; exact hpl1) = v0 := ⟨_, rfl⟩
      rw [hv0] at g0 g1 g2
      have gu0 := gu (i * 3)
      have gu1 := gu (i * 3 + 1)
      have gu2 := gu (i * 3 + 2)
      have S0 : (fun w' : World => w'.cell? ⟨r, 0, none⟩ = some (.slice (some ⟨g, 0, none⟩) n lc) ∧ w'.cell? ⟨fb, 0, none⟩ = some (.string (bstr p)) ∧ w'.cell? ⟨fb, 1, none⟩ = some (.slice xa xl xc) ∧ w'.cell? ⟨fb, 2, none⟩ = some (.bool sv)) w6.drew := ⟨c0, f0, f1, f2⟩
      have hpi : (i : Int) < (n : Int) := by omega
      have hgfb : ¬ fb = g := fun e => HLF.out (by rw [e]; rfl)
      have hgr : ¬ r = g := fun e => H6.out.self.1 (by rw [e]; rfl)
      have hc7 : Chg (fun k => k = g) w6 (((w6.setCell ⟨g, i * 3, none⟩ (.string (bstr p))).setCell ⟨g, i * 3 + 1, none⟩ (.slice xa xl xc)).setCell ⟨g, i * 3 + 2, none⟩ (.bool sv)) := (((Chg.refl (fun k => k = g) w6).at g (i * 3) (.inl rfl) _).at g (i * 3 + 1) (.inl rfl) _).at g (i * 3 + 2) (.inl rfl) _
      have hSS : (fun w' : World => w'.cell? ⟨r, 0, none⟩ = some (.slice (some ⟨g, 0, none⟩) n lc) ∧ w'.cell? ⟨fb, 0, none⟩ = some (.string (bstr p)) ∧ w'.cell? ⟨fb, 1, none⟩ = some (.slice xa xl xc) ∧ w'.cell? ⟨fb, 2, none⟩ = some (.bool sv)) (((w6.setCell ⟨g, i * 3, none⟩ (.string (bstr p))).setCell ⟨g, i * 3 + 1, none⟩ (.slice xa xl xc)).setCell ⟨g, i * 3 + 2, none⟩ (.bool sv)).drew := ⟨hc7.cell c0 hgr, hc7.cell f0 hgfb, hc7.cell f1 hgfb, hc7.cell f2 hgfb⟩
      have hset := ((H6.out.lst.set (i * 3) (.string (bstr p))).set (i * 3 + 1) (.slice xa xl xc)).set (i * 3 + 2) (.bool sv)
      have hcs : (((rcells es1).set (i * 3) (.string (bstr p))).set (i * 3 + 1) (.slice xa xl xc)).set (i * 3 + 2) (.bool sv) = rcells (put p fx es1) := by
        rw [put_there H6.out.up HX2.out, HQ.out]
        exact rcells_set3 es1 i (by rw [HNN.out]; exact hpl1) (p, fx) _ _ _ (by unfold rc; rw [HFV.out.1, HFV.out.2])
      rw [hcs] at hset
      have hnb : fx.v.ownBlock ≠ some g := fun e => by
        obtain ⟨cur, hr⟩ := H6.out.lst.row (b := g) rfl
        exact HXF.out.ne hr (fun e => rty4 e.symm) e
      have hU7 := HXF.out.chg hc7 fun k hk e => hnb (by rw [hk, e])
      have h7 := (H6.out.mark (x' := fx) HX2.out hnb hc7 hset hU7)
      rw [show ({ d6 with fs := put p fx.f d6.fs } : DS) = { (begins z d [a, p]).2.2 with fs := put p fx.f (del a d.fs) } by rw [← HD6.out]] at h7
      have hgw := HF5.out g rfl
      have hz7 := HZ6.out.chg hc7 fun k hk e => by have := HS.out.2.2.2 k hk; omega
      have hg7 : Chg (fun b => S b ∨ rf = some b) w (((w6.setCell ⟨g, i * 3, none⟩ (.string (bstr p))).setCell ⟨g, i * 3 + 1, none⟩ (.slice xa xl xc)).setCell ⟨g, i * 3 + 2, none⟩ (.bool sv)) := HG6.out.then (hc7.mono fun k hk e => by subst e; exact .inr ⟨hgw, hk⟩)
      have FIN : Hid (RefOut r rf S w (renames z d a p) (.returned (.int .i64 0)) (((w6.setCell ⟨g, i * 3, none⟩ (.string (bstr p))).setCell ⟨g, i * 3 + 1, none⟩ (.slice xa xl xc)).setCell ⟨g, i * 3 + 2, none⟩ (.bool sv)).drew) := Lib.hid (by
        unfold RefOut
        rw [HR.out]
        refine ⟨rfl, hz7.chg (Chg.of_ext (Ext.of_drawn _ 1) (fun _ => False)) (fun _ _ h => h), (h7.ext (Ext.of_drawn _ 1)).refAt (fun k hk => ?_) HS.out.2.1 HS.out.2.2.1 HS.out.2.2.2 hg7.size, hg7.trans (Chg.of_ext (Ext.of_drawn _ 1) _)⟩
        rcases hk with hk | hk | hk
        · exact .inl (HS.out.1 k (.inl hk))
        · cases hk
          exact .inr ⟨hgw, h7.lst.lt rfl⟩
        · exact .inl (HFOOT.out k hk))
      clear hc7 hset hcs hnb hU7 h7 hz7 hg7 hgfb hgr hgw gu hv0 hpe hx2
      go_wp2_with fail
      go_region_held3 (fun w' : World => w'.cell? ⟨r, 0, none⟩ = some (.slice (some ⟨g, 0, none⟩) n lc) ∧ w'.cell? ⟨fb, 0, none⟩ = some (.string (bstr p)) ∧ w'.cell? ⟨fb, 1, none⟩ = some (.slice xa xl xc) ∧ w'.cell? ⟨fb, 2, none⟩ = some (.bool sv)) (assumption) (fail)
      clear hSS S0
      go_wp2_with fail
      go_ret
      exact FIN.out
end Go.Proofs.YthkbbcdnmdjhdaaGreat
