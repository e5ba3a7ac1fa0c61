/-
  stripe.Split at numbers that may be.
-/
import Derived.Test.YtflockpdojjgeaaStrB
namespace Go.Proofs.Ytflockpdojjgeaa
open Go.RowKit
set_option maxRecDepth 100000
set_option maxHeartbeats 4000000
attribute [local go_sem] min_int2 max_int2

theorem cut_bvs (l : List UInt8) (n : Nat) (D : List UInt8) (i m : Nat) (hm : m = min n (D.length - i * n)) :
    (bvs l ++ (bvs (D.drop (i * n))).take m) ++ List.replicate (n - m) (.int .u8 0) = bvs (l ++ Stripe.cut n D i) := by
  have h1 : (D.drop (i * n)).take m = (D.drop (i * n)).take n := by
    rw [hm]
    apply List.ext_getElem?
    intro j
    rw [List.getElem?_take, List.getElem?_take]
    by_cases h : j < min n (D.length - i * n)
    · rw [if_pos h, if_pos (by omega)]
    · rw [if_neg h]
      by_cases h2 : j < n
      · rw [if_pos h2, List.getElem?_eq_none (by rw [List.length_drop]; omega)]
      · rw [if_neg h2]
  have h2 : ((D.drop (i * n)).take n).length = m := by rw [List.length_take, List.length_drop]; omega
  unfold Stripe.cut Stripe.pad
  rw [← List.map_take, h1, h2, bvs_append, bvs_append]
  show _ = bvs l ++ (bvs _ ++ (List.replicate (n - m) (0 : UInt8)).map bv)
  rw [List.map_replicate, List.append_assoc]; rfl

theorem split_yes (v : Value) (D : List UInt8) (k b : Nat) (h : May D.length k b) (w : World) (hD : Bytes w v D) :
    Calls Try.prog 15 #[v, .int .i64 k, .int .i64 b] w fun e w' => ∃ g vs, e = .returned (.tuple #[.slice (some ⟨g, 0, none⟩) k k, .bool true]) ∧
      ORows w' w.heap.size g k vs ((List.range k).map (Stripe.row D k b)) ∧ Ext w w' := by
  have hDD := Lib.hid hD
  obtain ⟨a, cap, rfl, -, -, -⟩ := hD
  rw [bvs_len] at hDD ⊢
  have H := Lib.hid h
  obtain ⟨h1, h2, h3, h4, h5, h6⟩ := h
  have hmk := make_rows k (by omega)
  go_enter Try.func15, Try.ntmps15
  go_wp2_with (go_at_call 40; refine (may_yes _ _ _ H.out _).mono ?_; rintro e w' ⟨rfl, rfl⟩)
  have hO := Lib.hid (ORows.start w w.heap.size k (Nat.le_refl _))
  have hB := (Ext.refl w).alloc (Nat.le_refl _) (.cells (Array.replicate k (.slice none 0 0)) 22)
  generalize hw1 : w.alloc (.cells (Array.replicate k (.slice none 0 0)) 22) = w1 at hO hB ⊢
  clear hw1 hmk
  go_loopw [0] (fun v0 wr => ∃ E a cap vs ls, v0 = .slice a (E : List UInt8).length cap ∧ E.length ≤ D.length ∧ Hid (Bytes w (.slice a E.length cap) E) ∧ Hid (ORows wr w.heap.size w.heap.size k vs ls) ∧ Hid (∀ i l, ls[i]? = some l → l ++ Stripe.row E k b i = Stripe.row D k b i) ∧ Below w.heap.size w wr) (fun v0 _ => lenV v0)
  case atStart =>
    refine ⟨D, a, cap, _, _, rfl, Nat.le_refl _, hDD, hO, fun i l hl => ?_, hB⟩
    rw [List.getElem?_replicate] at hl
    split at hl
    · simp at hl; subst hl; rfl
    · cases hl
  case round =>
    obtain ⟨E, ea, ecap, vs, ls, rfl, hE, hEb, hR, hP, hBr⟩ := hrel
    by_cases hp : 0 < E.length
    · have hpi : 0 < (E.length : Int) := by omega
      go_wp2_with (go_at_call 41; refine (up_any E.length k (by omega) (by omega) (by omega) _).mono ?_; rintro e w' ⟨rfl, rfl⟩)
      obtain ⟨n, hn⟩ : ∃ n, n = Stripe.blk E.length k b := ⟨_, rfl⟩
      have e : min (b : Int) ((Stripe.up E.length k : Nat) : Int) = (n : Int) := by rw [hn]; unfold Stripe.blk; omega
      have n1 : 1 ≤ n := by rw [hn]; exact Stripe.blk_pos hp (by omega) (by omega)
      have n2 : n ≤ b := by rw [hn]; unfold Stripe.blk; omega
      rw [e]
      have hN := Lib.hid hn
      clear e hn
      go_loopw [0, 30] (fun v0 v30 wq => ∃ i F fa fcap vs' ls', i ≤ k ∧ v30 = .int .i64 (i : Nat) ∧ v0 = .slice fa (F : List UInt8).length fcap ∧ F.length ≤ D.length ∧ Hid (F = E.drop (i * n)) ∧ Hid (Bytes w (.slice fa F.length fcap) F) ∧ Hid (ORows wq w.heap.size w.heap.size k vs' ls') ∧ Hid (∀ j l, ls[j]? = some l → ls'[j]? = some (l ++ if j < i then Stripe.cut n E j else [])) ∧ Below w.heap.size w wq) (fun _ v30 _ => (k - intOf v30).toNat)
      case atStart => exact ⟨0, E, ea, ecap, vs, ls, by omega, rfl, rfl, hE, by rw [Nat.zero_mul]; exact Lib.hid rfl, hEb, hR, Lib.hid fun j l hl => by rw [if_neg (by omega), List.append_nil]; exact hl, hBr⟩
      case round =>
        obtain ⟨i, F, fa, fcap, vs', ls', hi, rfl, rfl, hF, hFE, hFb, hR', hP', hBq⟩ := hrel
        by_cases hlt : i < k
        · have hlti : (i : Int) < (k : Int) := by omega
          obtain ⟨l, hl⟩ : ∃ l, ls'[i]? = some l := ⟨ls'[i]'(by have := hR'.out.llen; omega), List.getElem?_eq_getElem _⟩
          obtain ⟨vi, hvi⟩ : ∃ x, vs'[i]? = some x := ⟨vs'[i]'(by have := hR'.out.vlen; omega), List.getElem?_eq_getElem _⟩
          have c1 := hR'.out.row.cell (i := i) (v := vi) (by simpa using hvi)
          have u1 := hR'.out.row.unfrozen i
          obtain ⟨m, hm⟩ : ∃ m, min n F.length = m := ⟨_, rfl⟩
          have hm' : min (n : Int) (F.length : Int) = (m : Int) := by omega
          have m1 : m ≤ n := by omega
          have m2 : m ≤ F.length := by omega
          have m3 : (m : Int) ≤ (fcap : Int) := by
            obtain ⟨a', cap', e, hl', _, _⟩ := hFb.out
            simp only [Value.slice.injEq] at e
            rw [bvs_len] at hl' e
            omega
          have hw : IntKind.i64.wrap ((n : Int) - (m : Int)) = ((n - m : Nat) : Int) := by rw [IntWalk.i64_in _ (by omega)]; omega
          have hcut : Hid ((bvs l ++ (bvs F).take m) ++ List.replicate (n - m) (.int .u8 0) = bvs (l ++ Stripe.cut n E i)) := by
            have := cut_bvs l n E i m (by rw [← hm, hFE.out, List.length_drop])
            rw [← hFE.out] at this
            exact this
          have hll : l.length ≤ 70000 := by
            have hi2 : i < ls.length := by have := hR.out.llen; omega
            have q1 := hP'.out i ls[i] (List.getElem?_eq_getElem hi2)
            rw [if_neg (by omega), List.append_nil, hl] at q1
            have q2 := hP.out i ls[i] (List.getElem?_eq_getElem hi2)
            have q3 := Stripe.row_length (D := D) (k := k) (b := b) i (by omega) (by omega)
            have q4 := (Stripe.len_mul (n := D.length) (k := k) (b := b) (by omega) (by omega)).2
            have q5 : Stripe.len D.length k b ≤ Stripe.len D.length k b * k := Nat.le_mul_of_pos_right _ (by omega)
            have q6 : (Stripe.row D k b i).length = ls[i].length + (Stripe.row E k b i).length := by rw [← q2, List.length_append]
            simp only [Option.some.injEq] at q1
            rw [q1]; omega
          have own1 := Lib.hid (hR'.out.drew.own i vi l hvi hl)
          have src1 := Lib.hid (Cells.src (P := Try.prog) Try.underlying22 ((hFb.out.ext hBq.drew).take m m2) (fun u hu => bvs_one F u (List.mem_of_mem_take hu)))
          have hB0 : w.heap.size ≤ wr.drew.heap.size := hBq.size
          have htl : ((bvs F).take m).length = m := by rw [List.length_take, bvs_len]; omega
          have hb1 : (bvs l).length + ((bvs F).take m).length ≤ maxLen := by rw [bvs_len, htl]; simp [maxLen]; omega
          have hb2 : (2 * ((bvs l).length + ((bvs F).take m).length) + 768) * 1 ≤ 281474976710656 := by rw [bvs_len, htl]; omega
          have hb3 : (bvs l ++ (bvs F).take m).length + (n - m) ≤ maxLen := by rw [List.length_append, bvs_len, htl]; simp [maxLen]; omega
          have hb4 : (2 * ((bvs l ++ (bvs F).take m).length + (n - m)) + 768) * 1 ≤ 281474976710656 := by rw [List.length_append, bvs_len, htl]; omega
          have HB1 := Lib.hid hb1
          have HB2 := Lib.hid hb2
          have HB3 := Lib.hid hb3
          have HB4 := Lib.hid hb4
          clear hb1 hb2 hb3 hb4 hll
          go_wp2_with fail
          go_region_law (first | (refine step_of_wp rfl (wp_appx _ _ 22 22 5 (.int .u8 0) 1 rfl Try.underlying22 info_u8' rfl rfl own1.out.1 rfl src1.out HB1.out HB2.out hB0 (l.length + m) (by rw [bvs_len, htl]) ?_); intro ad1 c1' w1 ha1) | (refine step_of_wp rfl (wp_appz _ _ 22 3 5 (.int .u8 0) 1 rfl Try.underlying22 Try.underlying3 info_u8' rfl rfl rfl ha1.1 (n - m) rfl HB3.out HB4.out (Nat.le_trans hB0 ha1.2.1.size) (l.length + n) (by rw [List.length_append, bvs_len, htl]; omega) ?_); intro ad2 c2' w2 ha2; have ha := ha1.trans ha2; have r2 : Row w2 w.heap.size 22 vs'.toArray := (ha.2.1.block _ hR'.out.drew.row.lt (fun h => own1.out.2 h.symm)).trans hR'.out.row; have c2 := r2.cell (i := i) (v := vi) (by simpa using hvi); have u2 := r2.unfrozen i))
          rw [hcut.out] at ha
          have hst := Lib.hid (hR'.out.drew.step hvi hl ha)
          have hBw : Below w.heap.size w (w2.setCell ⟨w.heap.size, i, none⟩ (.slice ad2 (l.length + n) c2')) :=
            (hBq.drew.grown ha.2.1 hB0 (fun q hq => (World.ownsRow.lt own1.out.1 q hq).1)).setCell (p := ⟨w.heap.size, i, none⟩) (Nat.le_refl _) _
          clear ha1 ha2 ha r2 c2 u2 own1 src1 HB1 HB2 HB3 HB4 hB0 htl c1 u1
          generalize w2.setCell ⟨w.heap.size, i, none⟩ (.slice ad2 (l.length + n) c2') = w3 at hst hBw ⊢
          go_wp2_with (refine list_of_wp rfl fun K hK => wp_slice1 22 5 (.int .u8 0) 1 _ _ _ rfl Try.underlying22 info_u8' rfl hFb.out m F.length m2 (Nat.le_refl _) (.inr rfl) (.inl ⟨rfl, rfl⟩) fun fa2 fc2 hc2 => hK _ _ ?_)
          have hi2 : i < ls'.length := by have := hR'.out.llen; omega
          have hi3 : i < ls.length := by have := hR.out.llen; omega
          have q1 := hP'.out i ls[i] (List.getElem?_eq_getElem hi3)
          rw [if_neg (by omega), List.append_nil, hl] at q1
          simp only [Option.some.injEq] at q1
          have hFd : F.drop m = E.drop ((i + 1) * n) := by
            have h1 : F.drop m = F.drop n := by
              by_cases h : n ≤ F.length
              · rw [show m = n by omega]
              · rw [List.drop_of_length_le (by omega : F.length ≤ m), List.drop_of_length_le (by omega : F.length ≤ n)]
            rw [h1, hFE.out, List.drop_drop, Nat.succ_mul]
          have hc3 : Bytes w (.slice fa2 (F.drop m).length fc2) (F.drop m) := by
            have e1 : ((bvs F).take F.length).drop m = bvs (F.drop m) := by
              rw [List.take_of_length_le (by rw [bvs_len]; exact Nat.le_refl _), bvs_drop]
            rw [e1] at hc2
            rw [List.length_drop]; exact hc2
          refine ⟨⟨i + 1, F.drop m, fa2, fc2, _, _, by omega, by go_num, by rw [List.length_drop], by rw [List.length_drop]; omega, Lib.hid hFd, Lib.hid hc3, hst, Lib.hid fun j l' hl' => ?_, hBw⟩, by simp [intOf]; omega⟩
          rw [List.getElem?_set]
          by_cases hj : i = j
          · subst hj
            rw [List.getElem?_eq_getElem hi3] at hl'
            simp only [Option.some.injEq] at hl'
            rw [if_pos rfl, if_pos hi2, if_pos (by omega), q1, hl']
          · rw [if_neg hj, hP'.out j l' hl']
            by_cases hj2 : j < i
            · rw [if_pos hj2, if_pos (by omega)]
            · rw [if_neg hj2, if_neg (by omega)]
        · obtain rfl : i = k := by omega
          have hkn : 1 ≤ i * n := Nat.mul_pos (by omega) n1
          have hFl : F.length < E.length := by rw [hFE.out, List.length_drop]; omega
          have hEne : E ≠ [] := fun h => by rw [h] at hp; simp at hp
          go_wp2
          refine ⟨⟨F, fa, fcap, vs', ls', rfl, hF, hFb, hR', Lib.hid fun j l' hl' => ?_, hBq⟩, hFl⟩
          have hj : j < i := by have h1 := hR'.out.llen; have h2 := (List.getElem?_eq_some_iff.1 hl').1; omega
          have hj2 : j < ls.length := by have := hR.out.llen; omega
          have q1 := hP'.out j ls[j] (List.getElem?_eq_getElem hj2)
          rw [if_pos hj, hl'] at q1
          simp only [Option.some.injEq] at q1
          have q2 := hP.out j ls[j] (List.getElem?_eq_getElem hj2)
          rw [Stripe.row_step j hEne (by omega) (by omega), ← hN.out] at q2
          rw [q1, hFE.out, List.append_assoc]; exact q2
    · have hE0 : E = [] := List.eq_nil_of_length_eq_zero (by omega)
      have hle : ls = (List.range k).map (Stripe.row D k b) := by
        apply List.ext_getElem?
        intro j
        have hll := hR.out.llen
        by_cases hj : j < k
        · have hj2 : j < ls.length := by omega
          have q2 := hP.out j ls[j] (List.getElem?_eq_getElem hj2)
          rw [hE0, Stripe.row_nil, List.append_nil] at q2
          rw [List.getElem?_eq_getElem hj2, q2]; simp [hj]
        · rw [List.getElem?_eq_none (by omega), List.getElem?_eq_none (by simp; omega)]
      have hR2 := hR.out
      rw [hle] at hR2
      have hR3 := Lib.hid hR2
      clear hR2 hle hE0 hP hR hEb
      go_wp2
      go_ret2
      exact ⟨w.heap.size, vs, rfl, hR3.out, hBr⟩
end Go.Proofs.Ytflockpdojjgeaa
