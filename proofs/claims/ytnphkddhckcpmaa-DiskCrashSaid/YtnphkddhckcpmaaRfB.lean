/-
  The reference's disk: at, Used, NewDisk, the fuse's Set; as things of their own.
-/
import Derived.Test.YtnphkddhckcpmaaRfA
namespace Go.Proofs.Ytnphkddhckcpmaa
open Go.RowKit Dk
set_option maxRecDepth 100000
set_option maxHeartbeats 4000000
attribute [local go_sem] min_int2 max_int2 bstr_toList bstr_size

/-- Where an entry lies. -/
theorem RRaw.entry {w : World} {r : Nat} {rf : Option Nat} {lv : Value} {es : L REnt} {d : DS} (h : RRaw w r rf lv es d) {i : Nat} (hi : i < es.length) :
    ∃ g cap, lv = .slice (some ⟨g, 0, none⟩) es.length cap ∧ es.length ≤ cap ∧ w.cell? ⟨g, i * 3, none⟩ = some (.string (bstr es[i].1)) ∧ w.cell? ⟨g, i * 3 + 1, none⟩ = some es[i].2.v ∧ w.cell? ⟨g, i * 3 + 2, none⟩ = some (.bool es[i].2.f.sure) ∧ ∀ j, w.frozen? ⟨g, j, none⟩ = false := by
  obtain ⟨h1, h2, h3⟩ := rcells_get hi
  obtain ⟨g, cap, rfl, -, hc, c1⟩ := h.lst.cell h1
  obtain ⟨g2, cap2, e2, -, -, c2⟩ := h.lst.cell h2
  obtain ⟨g3, cap3, e3, -, -, c3⟩ := h.lst.cell h3
  cases e2
  cases e3
  obtain ⟨cur, hr⟩ := h.lst.row (b := g) rfl
  exact ⟨g, cap, rfl, hc, c1, c2, c3, fun j => hr.unfrozen j⟩
theorem RRaw.ext {w w' : World} {r : Nat} {rf : Option Nat} {lv : Value} {es : L REnt} {d : DS} (h : RRaw w r rf lv es d) (k : Ext w w') : RRaw w' r rf lv es d := h.chg (Chg.of_ext k fun _ => False) fun _ _ h => h
theorem at_any (r : Nat) (rf : Option Nat) (lv : Value) (es : L REnt) (d : DS) (p : Path) (w : World) (h : RRaw w r rf lv es d) (hn : es.length ≤ 100000) (hp : p.length ≤ 140737488351232) :
    Calls Try.prog 63 #[.pointer (some ⟨r, 0, none⟩), .string (bstr p)] w fun e w' => e = .returned (.tuple #[.int .i64 (pos p es : Nat), .bool (get p es).isSome]) ∧ Ext w w' := by
  have H := Lib.hid h
  have HES := Lib.hid h.pl
  obtain ⟨la, lc, hlv⟩ := h.lst.slice
  subst hlv
  have c0 := h.row.cell (i := 0) (v := .slice la es.length lc) rfl
  have HPL := Lib.hid (placed p h.up).1
  clear h
  go_enter Try.func63, Try.ntmps63
  go_wp2_with fail
  clear c0
  go_loopw [6] (fun v6 wr => ∃ i : Nat, i ≤ es.length ∧ v6 = .int .i64 (i : Nat) ∧ Hid (∀ j (hj : j < i) (hl : j < es.length), bytesBefore es[j].1 p = true) ∧ Hid (Ext w wr)) (fun v6 _ => (es.length - intOf v6).toNat)
  case atStart => exact ⟨0, by omega, rfl, Lib.hid fun j hj => absurd hj (Nat.not_lt_zero _), Lib.hid (Ext.refl _)⟩
  case round =>
    obtain ⟨i, hi, rfl, HJ, HE⟩ := hrel
    have c0 := (H.out.ext HE.out).row.cell (i := 0) (v := .slice la es.length lc) rfl
    by_cases hlt : i < es.length
    · have hlt' : (i : Int) < (es.length : Int) := by omega
      obtain ⟨g, cap, hlv, hcap, d1, -, -, -⟩ := (H.out.ext HE.out).entry hlt
      cases hlv
      obtain ⟨q, hq⟩ : ∃ q, es[i].1 = q := ⟨_, rfl⟩
      rw [hq] at d1
      have hql : q.length ≤ 140737488351232 := by rw [← hq]; exact Nat.le_trans (HES.out _ (List.getElem_mem hlt)) (by decide)
      have HQ := Lib.hid hq
      have HD1 := Lib.hid d1
      clear hq
      go_wp2_with fail
      refine (rless_any q p hql hp _).mono ?_; rintro e w2 ⟨rfl, x2⟩
      obtain ⟨t, ht⟩ : ∃ t, bytesBefore q p = t := ⟨_, rfl⟩
      rw [ht]
      have HE2 := Lib.hid (Ext.trans HE.out x2)
      replace c0 := x2.cell c0
      replace d1 := x2.cell HD1.out
      clear x2
      cases t with
      | true =>
        have HJ2 := Lib.hid (show ∀ j (hj : j < i + 1) (hl : j < es.length), bytesBefore es[j].1 p = true from fun j hj hl => by
          by_cases e : j = i
          · subst e; rw [HQ.out]; exact ht
          · exact HJ.out j (by omega) hl)
        clear ht c0 d1
        go_wp2_with fail
        exact ⟨⟨i + 1, by omega, by go_num, HJ2, HE2⟩, by simp [intOf]; omega⟩
      | false =>
        have hpos : i = pos p es := pos_eq p es i hi (fun j hj => HJ.out j hj (by omega)) (fun h2 => by rw [HQ.out]; exact ht)
        have hgt : (get p es).isSome = (q == p) := by
          have h1 := HPL.out
          rw [← hpos, List.getElem?_eq_getElem hlt] at h1
          simp only [HQ.out] at h1
          rw [h1]
          by_cases e : q = p <;> simp [e]
        have HR := Lib.hid (And.intro hpos hgt)
        clear hpos hgt ht
        go_wp2_with fail
        go_quiet (fail)
        have HF := Lib.hid (Ext.trans HE2.out (Ext.of_drawn w2 nq))
        go_wp2_with fail
        go_ret2
        rw [← HR.out.1, HR.out.2]
        exact ⟨rfl, HF.out⟩
    · obtain rfl : i = es.length := by omega
      clear hlt
      have hpos : es.length = pos p es := pos_eq p es es.length (Nat.le_refl _) (fun j hj => HJ.out j hj hj) (fun h2 => absurd h2 (Nat.lt_irrefl _))
      have hgt : (get p es).isSome = false := by
        have h1 := HPL.out
        rw [← hpos, List.getElem?_eq_none (Nat.le_refl _)] at h1
        rw [h1]; rfl
      have HR := Lib.hid (And.intro hpos hgt)
      clear hpos hgt
      go_wp2_with fail
      go_ret2
      rw [← HR.out.1, HR.out.2]
      exact ⟨rfl, HE.out⟩
theorem tot_take : ∀ (l : L Fil) {i : Nat} (h : i < l.length), tot (l.take (i + 1)) = tot (l.take i) + l[i].2.b.length
  | [], _, h => absurd h (Nat.not_lt_zero _)
  | e :: l, 0, _ => by simp [tot]
  | e :: l, i + 1, h => by
    have := tot_take l (i := i) (by simpa using h)
    rw [List.take_succ_cons, tot_cons, this, List.take_succ_cons, tot_cons, List.getElem_cons_succ]; omega
theorem tot_take_le (l : L Fil) (i : Nat) : tot (l.take i) ≤ tot l := by
  induction l generalizing i with
  | nil => simp
  | cons e l ih =>
    cases i with
    | zero => simp [tot]
    | succ i => rw [List.take_succ_cons, tot_cons, tot_cons]; have := ih i; omega
theorem rused_any (r : Nat) (rf : Option Nat) (lv : Value) (es : L REnt) (d : DS) (w : World) (h : RRaw w r rf lv es d) (hn : es.length ≤ 100000) (ht : tot d.fs ≤ 1099511627776) :
    Calls Try.prog 55 #[.pointer (some ⟨r, 0, none⟩)] w fun e w' => e = .returned (.int .i64 (tot d.fs : Nat)) ∧ w = w' := by
  have H := Lib.hid h
  obtain ⟨la, lc, hlv⟩ := h.lst.slice
  subst hlv
  have c0 := h.row.cell (i := 0) (v := .slice la es.length lc) rfl
  have hfl : d.fs.length = es.length := by rw [h.fs]; exact mapv_length _ _
  have HFS := Lib.hid (And.intro h.fs hfl)
  have HT := Lib.hid ht
  clear h hfl ht
  go_enter Try.func55, Try.ntmps55
  go_wp2_with fail
  go_loop [3, 4] (fun v3 v4 => ∃ i : Nat, i ≤ es.length ∧ v4 = .int .i64 (i : Nat) ∧ v3 = .int .i64 (tot (d.fs.take i) : Nat)) (fun _ v4 => (es.length - intOf v4).toNat)
  case atStart => exact ⟨0, by omega, rfl, rfl⟩
  case round =>
    obtain ⟨i, hi, rfl, rfl⟩ := hrel
    by_cases hlt : i < es.length
    · have hlt' : (i : Int) < (es.length : Int) := by omega
      obtain ⟨g, cap, hlv, hcap, -, d1, -, -⟩ := H.out.entry hlt
      cases hlv
      obtain ⟨xa, xc, hv⟩ := Own.slice' (H.out.file _ (List.getElem_mem hlt))
      rw [bvs_len] at hv
      rw [hv] at d1
      have hst := tot_take d.fs (i := i) (by rw [HFS.out.2]; exact hlt)
      have he : (d.fs[i]'(by rw [HFS.out.2]; exact hlt)).2.b.length = es[i].2.f.b.length := by
        simp only [HFS.out.1, rfils, mapv, List.getElem_map]
      rw [he] at hst
      obtain ⟨n, hnn⟩ : ∃ n, es[i].2.f.b.length = n := ⟨_, rfl⟩
      rw [hnn] at hst d1
      obtain ⟨t, htt⟩ : ∃ t, tot (d.fs.take i) = t := ⟨_, rfl⟩
      have hb := tot_take_le d.fs (i + 1)
      rw [hst, htt] at hb
      have hb2 : t + n ≤ 1099511627776 := Nat.le_trans hb HT.out
      have HST := Lib.hid hst
      rw [htt] at HST ⊢
      clear hst he hnn htt hb hv
      go_wp2_with fail
      exact ⟨⟨i + 1, by omega, by go_num, by rw [HST.out]; go_num⟩, by simp [intOf]; omega⟩
    · obtain rfl : i = es.length := by omega
      have he : tot (d.fs.take es.length) = tot d.fs := by rw [← HFS.out.2, List.take_length]
      rw [he]
      clear hlt he
      go_wp2_with fail
      go_ret
      exact ⟨rfl, rfl⟩
theorem newref_any (n : Int) (rf : Option Nat) (w : World) (hf : ∀ b, rf = some b → b < w.heap.size) :
    Calls Try.prog 34 #[.int .i64 n, fptr rf] w fun e w' => e = .returned (.pointer (some ⟨w.heap.size, 0, none⟩)) ∧ RefAt w' w.heap.size rf ⟨mostOf n, false, 0, []⟩ (Grow (fun _ => False) w w') ∧ Ext w w' := by
  have key : ∀ M : Nat, M ≤ 4194304 → RefAt (w.alloc (.cells #[.slice none 0 0, .int .i64 M, fptr rf, .bool false, .int .i64 0] 93)) w.heap.size rf ⟨M, false, 0, []⟩ (Grow (fun _ => False) w (w.alloc (.cells #[.slice none 0 0, .int .i64 M, fptr rf, .bool false, .int .i64 0] 93))) ∧ Ext w (w.alloc (.cells #[.slice none 0 0, .int .i64 M, fptr rf, .bool false, .int .i64 0] 93)) := fun M hM => by
    have hr := Row.new w 93 #[.slice none 0 0, .int .i64 M, fptr rf, .bool false, .int .i64 0]
    refine ⟨⟨.slice none 0 0, [], ⟨hr, OwnK.nil _ _ _ _, Up.nil, by simp, rfl, by simp, hM, by simp⟩, fun b hb => ?_, fun b hb => hb.elim False.elim fun h => h.2, fun b hb hg => ?_⟩, (Ext.refl w).alloc (Nat.le_refl _) _⟩
    · rcases hb with rfl | hb | ⟨e, he, -⟩
      · exact .inr ⟨Nat.le_refl _, by simp⟩
      · cases hb
      · simp at he
    · have := hf b hb
      rcases hg with hg | hg
      · exact hg
      · omega
  have KEY := Lib.hid key
  clear key
  obtain ⟨ad, hfp⟩ : ∃ ad, fptr rf = .pointer ad := ⟨_, rfl⟩
  rw [hfp] at KEY ⊢
  clear hfp hf
  go_enter Try.func34, Try.ntmps34
  by_cases h0 : n < 0
  · have hm : mostOf n = 0 := by unfold mostOf; rw [if_pos (.inl h0)]
    have HM := Lib.hid hm
    clear hm
    go_wp2_with fail
    go_ret
    rw [HM.out]
    exact ⟨rfl, KEY.out 0 (by omega)⟩
  · by_cases h1 : 4194304 < n
    · have hm : mostOf n = 0 := by unfold mostOf; rw [if_pos (.inr h1)]
      have HM := Lib.hid hm
      clear hm
      go_wp2_with fail
      go_ret
      rw [HM.out]
      exact ⟨rfl, KEY.out 0 (by omega)⟩
    · have hm : mostOf n = n.toNat := by unfold mostOf; rw [if_neg (by omega)]
      obtain ⟨k, rfl⟩ : ∃ k : Nat, n = k := ⟨n.toNat, by omega⟩
      have hk : k ≤ 4194304 := by omega
      have hm2 : mostOf (k : Int) = k := by rw [hm]; omega
      have HM := Lib.hid hm2
      clear hm hm2
      go_wp2_with fail
      go_ret
      rw [HM.out]
      exact ⟨rfl, KEY.out k hk⟩
theorem rset_any (b : Nat) (z : FS) (n : Int) (hn : -9223372036854775808 ≤ n ∧ n ≤ 9223372036854775807) (w : World) (h : RzAt w (some b) (some z)) :
    Calls Try.prog 54 #[.pointer (some ⟨b, 0, none⟩), .int .i64 n] w fun e w' => e = .returned (.tuple #[]) ∧ RzAt w' (some b) (some ⟨n, 0, false⟩) ∧ Chg (fun x => x = b) w w' ∧ w'.heap.size = w.heap.size := by
  obtain ⟨h1, -, -⟩ := h
  have r1 := ((h1.set 0 (.int .i64 n)).set 1 (.int .i64 0)).set 2 (.bool false)
  have H := Lib.hid r1
  have c0 := h1.cell (i := 0) (v := .int .i64 z.n) rfl
  have c1 := h1.cell (i := 1) (v := .int .i64 z.ops) rfl
  have c2 := h1.cell (i := 2) (v := .bool z.blown) rfl
  have u0 := h1.unfrozen 0
  have u1 := h1.unfrozen 1
  have u2 := h1.unfrozen 2
  have HN := Lib.hid hn
  clear h1 r1 hn
  go_enter Try.func54, Try.ntmps54
  go_wp2_with fail
  go_end0
  have r2 := H.out
  refine ⟨rfl, ⟨by simpa using r2, HN.out.1, HN.out.2⟩, (((Chg.refl (fun x => x = b) _).at b 0 (.inl rfl) _).at b 1 (.inl rfl) _).at b 2 (.inl rfl) _, by simp⟩
end Go.Proofs.Ytnphkddhckcpmaa
