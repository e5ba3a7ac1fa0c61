/-
  The reference's Split at numbers that may be, and that may not.
-/
import Derived.Test.YtflockpdojjgeaaStrC
import Derived.Test.YtflockpdojjgeaaStrPure2
import Derived.Laws.CopyOwn
namespace Go.Proofs.Ytflockpdojjgeaa
open Go.RowKit
set_option maxRecDepth 100000
set_option maxHeartbeats 4000000
attribute [local go_sem] min_int2 max_int2

theorem rsplit_no (v : Value) (D : List UInt8) (k b : Int) (h : ¬ May D.length k b) (w : World) (hD : Bytes w v D) :
    Calls Try.prog 16 #[v, .int .i64 k, .int .i64 b] w fun e w' => e = .returned (.tuple #[.slice none 0 0, .bool false]) ∧ w = w' := by
  obtain ⟨a, cap, rfl, -, -, -⟩ := hD
  rw [bvs_len]
  have key : k < 1 ∨ (1 ≤ k ∧ 255 < k) ∨ (1 ≤ k ∧ k ≤ 255 ∧ b < 1) ∨ (1 ≤ k ∧ k ≤ 255 ∧ 1 ≤ b ∧ 4096 < b) ∨ (1 ≤ k ∧ k ≤ 255 ∧ 1 ≤ b ∧ b ≤ 4096 ∧ 65536 < (D.length : Int)) := by unfold May at h; omega
  clear h
  rcases key with h1 | ⟨h1, h2⟩ | ⟨h1, h2, h3⟩ | ⟨h1, h2, h3, h4⟩ | ⟨h1, h2, h3, h4, h5⟩
  all_goals
    go_enter Try.func16, Try.ntmps16
    go_wp2
    go_ret2
    exact ⟨rfl, rfl⟩

theorem ORows.ext {w w' : World} {B g k : Nat} {vs : List Value} {ls : List (List UInt8)} (h : ORows w B g k vs ls) (hx : Ext w w') : ORows w' B g k vs ls :=
  ⟨h.vlen, h.llen, h.base, h.row.ext hx, fun i v l hv hl => ⟨(h.own i v l hv hl).1.ext hx, (h.own i v l hv hl).2⟩, h.apart⟩
theorem Row.cells {w : World} {g : Nat} {e : TypeId} {cs : List Value} (h : Row w g e cs.toArray) (n : Nat) (hn : n = cs.length) : Cells w (.slice (some ⟨g, 0, none⟩) n n) cs := by
  subst hn
  refine ⟨_, _, rfl, Nat.le_refl _, (fun h => by cases h), fun j u hu => ⟨_, rfl, ?_⟩⟩
  rw [Addr.add_lit, Nat.zero_add]
  exact h.cell (by simpa using hu)
theorem src_ptr {w : World} {a : Option Addr} {n cap : Nat} {cs : List Value} (h : Cells w (.slice a n cap) cs) (hpos : 0 < cs.length) : ∃ ad : Addr, a = some ad ∧ ∀ (j : Nat) (v : Value), cs[j]? = some v → w.cell? (ad.add j) = some v := by
  obtain ⟨b, o, rfl, _⟩ := h.at (List.getElem?_eq_getElem hpos)
  refine ⟨_, rfl, fun j v hv => ?_⟩
  obtain ⟨b', o', e, hc⟩ := h.at hv
  simp only [Option.some.injEq, Addr.mk.injEq, and_true] at e
  obtain ⟨rfl, rfl⟩ := e
  rw [Addr.add_lit]; exact hc
theorem copy_row (n : Nat) (E : List UInt8) (i : Nat) :
    splice (List.replicate n (Value.int .u8 0)) 0 (bvs ((E.drop (i * n)).take n)) = bvs (Stripe.cut n E i) := by
  unfold splice Stripe.cut Stripe.pad
  rw [bvs_append, List.take_zero, List.nil_append, Nat.zero_add, List.drop_replicate, bvs_len]
  congr 1
  show _ = (List.replicate _ (0 : UInt8)).map bv
  rw [List.map_replicate]; rfl

theorem rsplit_yes (v : Value) (D : List UInt8) (k b : Nat) (h : May D.length k b) (w : World) (hD : Bytes w v D) :
    Calls Try.prog 16 #[v, .int .i64 k, .int .i64 b] w fun e w' => ∃ g vs, e = .returned (.tuple #[.slice (some ⟨g, 0, none⟩) k k, .bool true]) ∧
      ORows w' w.heap.size g k vs (Stripe.rows D k b) ∧ Ext w w' := by
  have hDD := Lib.hid hD
  obtain ⟨a, cap, rfl, -, -, -⟩ := hD
  rw [bvs_len] at hDD ⊢
  obtain ⟨h1, h2, h3, h4, h5, h6⟩ := h
  have hmk := make_rows k (by omega)
  obtain ⟨kb, hkb⟩ : ∃ x, k * b = x := ⟨_, rfl⟩
  have hkbi : (k : Int) * (b : Int) = (kb : Int) := by rw [← hkb]; simp
  have kb1 : 1 ≤ kb := by rw [← hkb]; exact Nat.mul_pos (by omega) (by omega)
  have kb2 : kb ≤ 255 * 4096 := by rw [← hkb]; exact Nat.mul_le_mul (by omega) (by omega)
  have HKB := Lib.hid hkb
  clear hkb
  have HLEN : Hid (∀ i, (Stripe.row D k b i).length ≤ 70000) := Lib.hid fun i => by
    rw [Stripe.row_length i (by omega) (by omega)]
    have q4 := (Stripe.len_mul (n := D.length) (k := k) (b := b) (by omega) (by omega)).2
    have q5 : Stripe.len D.length k b ≤ Stripe.len D.length k b * k := Nat.le_mul_of_pos_right _ (by omega)
    omega
  go_enter Try.func16, Try.ntmps16
  go_wp2
  have hO := Lib.hid (ORows.start w w.heap.size k (Nat.le_refl _))
  have hB := (Ext.refl w).alloc (Nat.le_refl _) (.cells (Array.replicate k (.slice none 0 0)) 22)
  generalize hw1 : w.alloc (.cells (Array.replicate k (.slice none 0 0)) 22) = w1 at hO hB ⊢
  clear hw1 hmk
  go_loopw [9] (fun v9 wr => ∃ p vs ls, v9 = .int .i64 (p : Nat) ∧ p ≤ D.length + kb ∧ Hid (ORows wr w.heap.size w.heap.size k vs ls) ∧ Hid (∀ i l, ls[i]? = some l → l ++ Stripe.row (D.drop p) k b i = Stripe.row D k b i) ∧ Below w.heap.size w wr) (fun v9 _ => (D.length + kb - intOf v9).toNat)
  case atStart =>
    refine ⟨0, _, _, rfl, by omega, hO, fun i l hl => ?_, hB⟩
    rw [List.getElem?_replicate] at hl
    split at hl
    · simp at hl; subst hl; rfl
    · cases hl
  case round =>
    obtain ⟨p, vs, ls, rfl, hp, hR, hP, hBr⟩ := hrel
    by_cases hlt : p < D.length
    · have hlt' : (p : Int) < (D.length : Int) := by omega
      obtain ⟨n, hn⟩ : ∃ n, n = Stripe.blk (D.length - p) k b := ⟨_, rfl⟩
      have hdp : (D.drop p).length = D.length - p := List.length_drop
      have n1 : 1 ≤ n := by rw [hn]; exact Stripe.blk_pos (by omega) (by omega) (by omega)
      have n2 : n ≤ b := by rw [hn]; unfold Stripe.blk; omega
      have hDr : Hid (D.drop (p + kb) = (D.drop p).drop (k * n)) := by
        rw [List.drop_drop]
        by_cases hs : kb ≤ D.length - p
        · have := (Stripe.len_big (n := D.length - p) (k := k) (b := b) (by omega) (by omega) (by rw [HKB.out]; exact hs)).1
          rw [hn, this, HKB.out]; exact Lib.hid rfl
        · have e1 : D.length - p ≤ k * n := by
            have h7 := (Stripe.up_mul (n := D.length - p) (k := k) (by omega)).1
            have h8 : Stripe.up (D.length - p) k ≤ b := (Stripe.up_le (by omega)).2 (by have := HKB.out; have := Nat.mul_comm b k; omega)
            have h9 : n = Stripe.up (D.length - p) k := by rw [hn]; unfold Stripe.blk; omega
            rw [h9, Nat.mul_comm]; exact h7
          rw [List.drop_of_length_le (by omega), List.drop_of_length_le (by omega)]; exact Lib.hid rfl
      have hrow : Hid (∀ i, Stripe.row (D.drop p) k b i = Stripe.cut n (D.drop p) i ++ Stripe.row (D.drop (p + kb)) k b i) := Lib.hid fun i => by
        have hne : D.drop p ≠ [] := fun h0 => by rw [h0] at hdp; simp at hdp; omega
        rw [Stripe.row_step i hne (by omega) (by omega), hdp, ← hn, ← hDr.out]
      have hN := Lib.hid hn
      clear hdp hDr
      have hsz : ((D.length : Int) - (p : Int) < (kb : Int)) ∨ ¬ ((D.length : Int) - (p : Int) < (kb : Int)) := by omega
      have hup : (D.length : Int) - p < kb → ((D.length : Int) - (p : Int) + (k : Int) - 1) / (k : Int) = (n : Int) := by
        intro hs
        have h8 : Stripe.up (D.length - p) k ≤ b := (Stripe.up_le (by omega)).2 (by have := HKB.out; have := Nat.mul_comm b k; omega)
        have h9 : n = Stripe.up (D.length - p) k := by rw [hn]; unfold Stripe.blk; omega
        rw [h9]; unfold Stripe.up
        rw [Int.natCast_ediv]; congr 1; omega
      have hbig : ¬ ((D.length : Int) - p < kb) → b = n := by
        intro hs
        have := (Stripe.len_big (n := D.length - p) (k := k) (b := b) (by omega) (by omega) (by rw [HKB.out]; omega)).1
        rw [hn, this]
      clear hn
      have HUP := Lib.hid hup
      have HBIG := Lib.hid hbig
      clear hup hbig
      have n3 : n ≤ 4096 := by omega
      have hmk : ∀ w, (Instr.makeSlice 22 (.int .i64 (n : Int)) (.int .i64 (n : Int))).run Try.prog w = .ok (.slice (some ⟨w.heap.size, 0, none⟩) n n) (w.alloc (.cells (Array.replicate n (.int .u8 0)) 5)) :=
        make_row (P := Try.prog) 22 5 (.int .u8 0) 1 n Try.underlying22 info_u8' rfl (by omega) (by omega)
      rcases hsz with hs | hs
      case' inl => have e1 := HUP.out hs
      case' inr => obtain rfl : n = b := (HBIG.out hs).symm
      all_goals
        clear HUP HBIG
        go_wp2
        try rw [e1]
        try clear e1
        try clear hs
        go_loopw [11] (fun v11 wq => ∃ i vs' ls', i ≤ k ∧ v11 = .int .i64 (i : Nat) ∧ Hid (ORows wq w.heap.size w.heap.size k vs' ls') ∧ Hid (∀ j l, ls[j]? = some l → ls'[j]? = some (l ++ if j < i then Stripe.cut n (D.drop p) j else [])) ∧ Below w.heap.size w wq) (fun v11 _ => (k - intOf v11).toNat)
        case atStart => exact ⟨0, vs, ls, by omega, rfl, hR, Lib.hid fun j l hl => by rw [if_neg (by omega), List.append_nil]; exact hl, hBr⟩
        case round =>
          obtain ⟨i, vs', ls', hi, rfl, hR', hP', hBq⟩ := hrel
          by_cases hlti : i < k
          · have hlti' : (i : Int) < (k : Int) := by omega
            obtain ⟨l, hl⟩ : ∃ l, ls'[i]? = some l := ⟨ls'[i]'(by have := hR'.out.llen; omega), List.getElem?_eq_getElem _⟩
            obtain ⟨vi, hvi⟩ : ∃ x, vs'[i]? = some x := ⟨vs'[i]'(by have := hR'.out.vlen; omega), List.getElem?_eq_getElem _⟩
            have c1 := hR'.out.row.cell (i := i) (v := vi) (by simpa using hvi)
            have u1 := hR'.out.row.unfrozen i
            obtain ⟨y, hy⟩ : ∃ y, i * n = y := ⟨_, rfl⟩
            have hyi : (i : Int) * (n : Int) = (y : Int) := by rw [← hy]; simp
            have y2 : y ≤ 255 * 4096 := by rw [← hy]; exact Nat.mul_le_mul (by omega) n3
            obtain ⟨f, hf⟩ : ∃ f, min (p + y) D.length = f := ⟨_, rfl⟩
            have hf' : min ((p : Int) + (y : Int)) (D.length : Int) = (f : Int) := by omega
            obtain ⟨z, hz⟩ : ∃ z, min (f + n) D.length = z := ⟨_, rfl⟩
            have hz' : min ((f : Int) + (n : Int)) (D.length : Int) = (z : Int) := by omega
            have z1 : f ≤ z := by omega
            have z2 : z ≤ D.length := by omega
            have hcs : Hid ((((bvs D).take z).drop f) = bvs (((D.drop p).drop (i * n)).take n)) := by
              rw [← bvs_take, ← bvs_drop, List.drop_drop, hy]
              apply congrArg bvs
              rw [List.drop_take]
              by_cases hpy : p + y ≤ D.length
              · rw [show f = p + y by omega]
                apply List.ext_getElem?
                intro j
                rw [List.getElem?_take, List.getElem?_take]
                by_cases hj : j < z - (p + y)
                · rw [if_pos hj, if_pos (by omega)]
                · rw [if_neg hj]
                  by_cases hj2 : j < n
                  · rw [if_pos hj2, List.getElem?_eq_none (by rw [List.length_drop]; omega)]
                  · rw [if_neg hj2]
              · rw [List.drop_of_length_le (by omega : D.length ≤ f), List.drop_of_length_le (by omega : D.length ≤ p + y)]; simp
            have HF := Lib.hid hf
            have HZ := Lib.hid hz
            have HY := Lib.hid hy
            clear hf hz hy
            have hcsl : Hid ((((D.drop p).drop (i * n)).take n).length = z - f) := by
              have := congrArg List.length hcs.out
              rw [List.length_drop, List.length_take, bvs_len, bvs_len] at this
              have h7 := HF.out; have h8 := HZ.out
              exact Lib.hid (by omega)
            have zfn : z - f ≤ n := by have h8 := HZ.out; omega
            have hg0 : (wr.alloc (.cells (Array.replicate n (.int .u8 0)) 5)).heap[wr.heap.size]? = some (.cells (List.replicate n (Value.int .u8 0)).toArray 5 (0, 0)) := by
              rw [List.toArray_replicate]; exact Row.new wr _ _
            have HG0 := Lib.hid hg0
            have xa : Ext wr (wr.alloc (.cells (Array.replicate n (.int .u8 0)) 5)) := (Ext.refl wr).alloc (Nat.le_refl _) _
            have hll : l.length ≤ 70000 := by
              have hi2 : i < ls.length := by have := hR.out.llen; omega
              have q1 := hP'.out i ls[i] (List.getElem?_eq_getElem hi2)
              rw [if_neg (by omega), List.append_nil, hl] at q1
              have q2 := hP.out i ls[i] (List.getElem?_eq_getElem hi2)
              have q3 := HLEN.out i
              rw [← q2, List.length_append] at q3
              simp only [Option.some.injEq] at q1
              rw [q1]; omega
            clear hg0
            have xw : Ext w (wr.alloc (.cells (Array.replicate n (.int .u8 0)) 5)) := Ext.trans hBq xa
            go_wp2_with (first | (refine list_of_wp rfl fun K hK => wp_slice1 22 5 (.int .u8 0) 1 _ _ _ rfl Try.underlying22 info_u8' rfl hDD.out f z z1 z2 (.inr rfl) (.inr rfl) fun sa sc hsc => hK _ _ ?_) | (refine wpList_copy_splice rfl _ _ 22 22 rfl 5 Try.underlying22 (by kernel_rfl) _ _ n n (z - f) sc rfl rfl wr.heap.size 0 (List.replicate n (.int .u8 0)) 5 HG0.out (bvs (((D.drop p).drop (i * n)).take n)) (by rw [bvs_len, hcsl.out]; exact (Nat.min_eq_left zfn).symm) (fun hpos => ⟨rfl, src_ptr ((show Bytes w (.slice sa (z - f) sc) (((D.drop p).drop (i * n)).take n) from by rw [hcs.out] at hsc; exact hsc).ext xw) hpos⟩) (by rw [bvs_len, hcsl.out]; simp; omega) (bvs_one _) wr.heap.size wr xa (Nat.le_refl _) fun w3 hcp hb3 => ?_; have R3 : Row w3 wr.heap.size 5 (bvs (Stripe.cut n (D.drop p) i)).toArray := (by rw [← copy_row]; exact hcp.out); have c3 := Ext.cell hb3 c1; have u3 := Ext.unfrozen hb3 c1 u1; have hR3 := hR'.out.ext hb3; have hB3 : Below w.heap.size w w3 := Below.trans hBq (Below.mono hb3 hBq.size); have src3 := Lib.hid (Cells.src (P := Try.prog) Try.underlying22 (R3.cells n (by rw [bvs_len, Stripe.cut_len])) (bvs_one _)); have own3 := Lib.hid (hR3.own i vi l hvi hl)) | (at_builtin; refine list_of_wp rfl fun K hK => wp_appx _ _ 22 22 5 (.int .u8 0) 1 rfl Try.underlying22 info_u8' rfl rfl own3.out.1 rfl src3.out (by rw [bvs_len, bvs_len, Stripe.cut_len]; simp [maxLen]; omega) (by rw [bvs_len, bvs_len, Stripe.cut_len]; omega) hB3.size (l.length + n) (by rw [bvs_len, bvs_len, Stripe.cut_len]) fun ad4 c4' w4 ha4 => hK _ _ ?_; have r4 : Row w4 w.heap.size 22 vs'.toArray := (ha4.2.1.block _ hR3.row.lt (fun h => own3.out.2 h.symm)).trans hR3.row; have c4 := r4.cell (i := i) (v := vi) (by simpa using hvi); have u4 := r4.unfrozen i))
            rw [← bvs_append] at ha4
            have hst := Lib.hid (hR3.step hvi hl ha4)
            have hBw : Below w.heap.size w (w4.setCell ⟨w.heap.size, i, none⟩ (.slice ad4 (l.length + n) c4')) :=
              (hB3.grown ha4.2.1 hB3.size (fun q hq => (World.ownsRow.lt own3.out.1 q hq).1)).setCell (p := ⟨w.heap.size, i, none⟩) (Nat.le_refl _) _
            have hi2 : i < ls'.length := by have := hR'.out.llen; omega
            have hi3 : i < ls.length := by have := hR.out.llen; omega
            have q1 := hP'.out i ls[i] (List.getElem?_eq_getElem hi3)
            rw [if_neg (by omega), List.append_nil, hl] at q1
            simp only [Option.some.injEq] at q1
            refine ⟨⟨i + 1, _, _, by omega, by go_num, hst, Lib.hid fun j l' hl' => ?_, hBw⟩, by simp [intOf]; omega⟩
            rw [List.getElem?_set]
            by_cases hj : i = j
            · subst hj
              rw [List.getElem?_eq_getElem hi3] at hl'
              simp only [Option.some.injEq] at hl'
              rw [if_pos rfl, if_pos hi2, if_pos (by omega), q1, hl']
            · rw [if_neg hj, hP'.out j l' hl']
              by_cases hj2 : j < i
              · rw [if_pos hj2, if_pos (by omega)]
              · rw [if_neg hj2, if_neg (by omega)]
          · obtain rfl : i = k := by omega
            clear hlti
            have hfin : Hid (∀ j l', ls'[j]? = some l' → l' ++ Stripe.row (D.drop (p + kb)) i _ j = Stripe.row D i _ j) := Lib.hid fun j l' hl' => by
              have hj : j < i := by have h1 := hR'.out.llen; have h2 := (List.getElem?_eq_some_iff.1 hl').1; omega
              have hj2 : j < ls.length := by have := hR.out.llen; omega
              have q1 := hP'.out j ls[j] (List.getElem?_eq_getElem hj2)
              rw [if_pos hj, hl'] at q1
              simp only [Option.some.injEq] at q1
              have q2 := hP.out j ls[j] (List.getElem?_eq_getElem hj2)
              rw [hrow.out j] at q2
              rw [q1, List.append_assoc]; exact q2
            go_wp2
            exact ⟨⟨p + kb, vs', ls', by go_num, by omega, hR', hfin, hBq⟩, by simp [intOf]; omega⟩
    · have hE0 : D.drop p = [] := List.drop_of_length_le (by omega)
      have hle : ls = Stripe.rows D k b := by
        unfold Stripe.rows
        apply List.ext_getElem?
        intro j
        have hll := hR.out.llen
        by_cases hj : j < k
        · have hj2 : j < ls.length := by omega
          have q2 := hP.out j ls[j] (List.getElem?_eq_getElem hj2)
          rw [hE0, Stripe.row_nil, List.append_nil] at q2
          rw [List.getElem?_eq_getElem hj2, q2]; simp [hj]
        · rw [List.getElem?_eq_none (by omega), List.getElem?_eq_none (by simp; omega)]
      have hR2 := hR.out
      rw [hle] at hR2
      have hR3 := Lib.hid hR2
      clear hR2 hle hE0 hP hR
      go_wp2
      go_ret2
      exact ⟨w.heap.size, vs, rfl, hR3.out, hBr⟩
end Go.Proofs.Ytflockpdojjgeaa
