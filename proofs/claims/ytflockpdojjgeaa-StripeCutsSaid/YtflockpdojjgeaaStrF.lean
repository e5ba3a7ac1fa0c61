/-
  The reference's Join, at all numbers and all rows.
-/
import Derived.Test.YtflockpdojjgeaaStrD
namespace Go.Proofs.Ytflockpdojjgeaa
open Go.RowKit
set_option maxRecDepth 100000
set_option maxHeartbeats 4000000
attribute [local go_sem] min_int2 max_int2

theorem rjoin_may (v : Value) (ls : List (List UInt8)) (size b : Int) (h : ¬ May size ls.length b) (w : World) (hR : BRows w v ls) :
    Calls Try.prog 18 #[v, .int .i64 size, .int .i64 b] w fun e w' => e = .returned (.tuple #[.slice none 0 0, .bool false]) ∧ Ext w w' := by
  obtain ⟨a, n, cap, rfl⟩ : ∃ a n cap, v = .slice a n cap := by obtain ⟨vs, ⟨a, cap, e, _⟩, _⟩ := hR; exact ⟨_, _, _, e⟩
  obtain rfl := hR.len
  obtain ⟨k, hk⟩ : ∃ k, ls.length = k := ⟨_, rfl⟩
  rw [hk] at h ⊢
  clear hk hR
  have key : (k : Int) < 1 ∨ (1 ≤ (k : Int) ∧ 255 < (k : Int)) ∨ (1 ≤ (k : Int) ∧ (k : Int) ≤ 255 ∧ b < 1) ∨ (1 ≤ (k : Int) ∧ (k : Int) ≤ 255 ∧ 1 ≤ b ∧ 4096 < b) ∨ (1 ≤ (k : Int) ∧ (k : Int) ≤ 255 ∧ 1 ≤ b ∧ b ≤ 4096 ∧ size < 0) ∨ (1 ≤ (k : Int) ∧ (k : Int) ≤ 255 ∧ 1 ≤ b ∧ b ≤ 4096 ∧ 0 ≤ size ∧ 65536 < size) := by unfold May at h; omega
  clear h
  rcases key with h1 | ⟨h1, h2⟩ | ⟨h1, h2, h3⟩ | ⟨h1, h2, h3, h4⟩ | ⟨h1, h2, h3, h4, h5⟩ | ⟨h1, h2, h3, h4, h5, h6⟩
  all_goals
    go_enter Try.func18, Try.ntmps18
    go_wp2
    go_ret2
    exact ⟨rfl, Ext.refl _⟩

theorem rjoin_odd (v : Value) (ls : List (List UInt8)) (size b : Nat) (h : May size ls.length b) (hodd : ¬ ∀ r ∈ ls, r.length = Stripe.len size ls.length b) (hlen : ∀ r ∈ ls, r.length ≤ maxLen) (w : World) (hR : BRows w v ls) :
    Calls Try.prog 18 #[v, .int .i64 size, .int .i64 b] w fun e w' => e = .returned (.tuple #[.slice none 0 0, .bool false]) ∧ Ext w w' := by
  obtain ⟨a, n, cap, rfl⟩ : ∃ a n cap, v = .slice a n cap := by obtain ⟨vs, ⟨a, cap, e, _⟩, _⟩ := hR; exact ⟨_, _, _, e⟩
  obtain rfl := hR.len
  have H := Lib.hid h
  have HR := Lib.hid hR
  have HODD := Lib.hid hodd
  have HL := Lib.hid hlen
  clear hR hodd hlen
  obtain ⟨h1, h2, h3, h4, h5, h6⟩ := h
  obtain ⟨q, hq⟩ : ∃ q, Stripe.len size ls.length b = q := ⟨_, rfl⟩
  have hq2 : q ≤ 70000 := by
    have := (Stripe.len_mul (n := size) (k := ls.length) (b := b) (by omega) (by omega)).2
    rw [hq] at this
    have h7 : q ≤ q * ls.length := Nat.le_mul_of_pos_right _ (by omega)
    omega
  have HQ := Lib.hid hq
  clear hq
  go_enter Try.func18, Try.ntmps18
  go_wp2_with fail
  go_loopw [9] (fun v6 wr => ∃ i : Nat, i ≤ ls.length ∧ v6 = .int .i64 i ∧ Hid (∀ j r, j < i → ls[j]? = some r → r.length = q) ∧ Below w.heap.size w wr) (fun v6 _ => (ls.length - intOf v6).toNat)
  case atStart => exact ⟨0, by omega, rfl, Lib.hid fun j r h => by omega, Ext.refl _⟩
  case round =>
    obtain ⟨i, hi, rfl, hJ, hBr⟩ := hrel
    have hx1 : Ext w wr := hBr
    by_cases hlt : i < ls.length
    · obtain ⟨rb, ro, ra, rc, rfl, c1, hb⟩ := (HR.out.ext hx1).at (List.getElem?_eq_getElem hlt)
      have hrl := HL.out ls[i] (List.getElem_mem hlt)
      unfold maxLen at hrl
      clear hb
      by_cases he : ls[i].length = q
      · have he' : (((ls[i].length : Nat) : Int) != (q : Int)) = false := by simp [he]
        have HE := Lib.hid he
        clear he
        go_wp2_with fail
        go_quiet ((go_at_call 21; exact Calls.quiet_of_same ((rlength_yes size ls.length b H.out _).mono fun e w' h => ⟨(HQ.out ▸ h.1 : _), h.2.symm⟩)))
        have x1 : Below w.heap.size w (wr.drewN nq) := Ext.trans hx1 (Ext.of_drawn _ _)
        generalize wr.drewN nq = wt at x1 ⊢
        go_wp2_with fail
        refine ⟨⟨i + 1, by omega, by go_num, Lib.hid fun j r hj hr => ?_, x1⟩, by simp [intOf]; omega⟩
        by_cases hji : j = i
        · subst hji
          rw [List.getElem?_eq_getElem hlt] at hr
          simp only [Option.some.injEq] at hr
          rw [← hr]; exact HE.out
        · exact hJ.out j r (by omega) hr
      · have he' : (((ls[i].length : Nat) : Int) != (q : Int)) = true := by simp; omega
        clear he
        go_wp2_with fail
        go_quiet ((go_at_call 21; exact Calls.quiet_of_same ((rlength_yes size ls.length b H.out _).mono fun e w' h => ⟨(HQ.out ▸ h.1 : _), h.2.symm⟩)))
        have x1 : Below w.heap.size w (wr.drewN nq) := Ext.trans hx1 (Ext.of_drawn _ _)
        generalize wr.drewN nq = wt at x1 ⊢
        go_wp2_with fail
        go_ret2
        exact ⟨rfl, x1⟩
    · exfalso
      refine HODD.out fun r hr => ?_
      obtain ⟨j, hj⟩ := List.getElem?_of_mem hr
      rw [HQ.out]
      exact hJ.out j r (by have := (List.getElem?_eq_some_iff.1 hj).1; omega) hj

theorem rjoin_yes (v : Value) (ls : List (List UInt8)) (size b : Nat) (h : May size ls.length b) (heven : ∀ r ∈ ls, r.length = Stripe.len size ls.length b) (w : World) (hR : BRows w v ls) :
    Calls Try.prog 18 #[v, .int .i64 size, .int .i64 b] w fun e w' =>
      ∃ x, e = .returned (.tuple #[x, .bool true]) ∧ Bytes w' x ((Stripe.join ls (Stripe.len size ls.length b) b 0).take size) ∧ Ext w w' := by
  obtain ⟨a, n, cap, rfl⟩ : ∃ a n cap, v = .slice a n cap := by obtain ⟨vs, ⟨a, cap, e, _⟩, _⟩ := hR; exact ⟨_, _, _, e⟩
  obtain rfl := hR.len
  have H := Lib.hid h
  have HR := Lib.hid hR
  clear hR
  obtain ⟨h1, h2, h3, h4, h5, h6⟩ := h
  obtain ⟨q, hq⟩ : ∃ q, Stripe.len size ls.length b = q := ⟨_, rfl⟩
  rw [hq] at heven ⊢
  have hmul := Stripe.len_mul (n := size) (k := ls.length) (b := b) (by omega) (by omega)
  rw [hq] at hmul
  have hq2 : q ≤ 70000 := by
    have h7 : q ≤ q * ls.length := Nat.le_mul_of_pos_right _ (by omega)
    omega
  obtain ⟨c, hc⟩ : ∃ c, q * ls.length = c := ⟨_, rfl⟩
  have hc2 : c ≤ 70000 := by omega
  have hc3 : size ≤ c := by omega
  have HE := Lib.hid heven
  have HJL : Hid ((Stripe.join ls q b 0).length = c) := by
    have := Stripe.join_len ls (n := q) (b := b) (by omega) heven _ 0 (Nat.le_refl _)
    rw [Nat.sub_zero, Nat.mul_comm, hc] at this; exact this
  clear heven hc hmul
  have HQ := Lib.hid hq
  clear hq
  go_enter Try.func18, Try.ntmps18
  go_wp2_with fail
  go_loopw [9] (fun v9 wr => ∃ i : Nat, i ≤ ls.length ∧ v9 = .int .i64 i ∧ Below w.heap.size w wr) (fun v9 _ => (ls.length - intOf v9).toNat)
  case atStart => exact ⟨0, by omega, rfl, Ext.refl _⟩
  case round =>
    obtain ⟨i, hi, rfl, hx1⟩ := hrel
    by_cases hlt : i < ls.length
    · obtain ⟨rb, ro, ra, rc, rfl, c1, hb⟩ := (HR.out.ext hx1).at (List.getElem?_eq_getElem hlt)
      have he := HE.out ls[i] (List.getElem_mem hlt)
      rw [he] at c1
      clear hb he
      go_wp2_with fail
      go_quiet ((go_at_call 21; exact Calls.quiet_of_same ((rlength_yes size ls.length b H.out _).mono fun e w' h => ⟨(HQ.out ▸ h.1 : _), h.2.symm⟩)))
      have x1 : Below w.heap.size w (wr.drewN nq) := Ext.trans hx1 (Ext.of_drawn _ _)
      generalize wr.drewN nq = wt at x1 ⊢
      go_wp2_with fail
      exact ⟨⟨i + 1, by omega, by go_num, x1⟩, by simp [intOf]; omega⟩
    · obtain rfl : i = ls.length := by omega
      clear hlt
      go_wp2_with fail
      go_loopw [10, 11] (fun v10 v11 wr => ∃ p acc xa xc, v11 = .int .i64 (p : Nat) ∧ v10 = .slice xa (acc : List UInt8).length xc ∧ p ≤ q + b ∧ acc.length ≤ c ∧ Hid (Own wr w.heap.size 5 (.slice xa acc.length xc) (bvs acc)) ∧ Hid (acc ++ Stripe.join ls q b p = Stripe.join ls q b 0) ∧ Below w.heap.size w wr) (fun _ v11 _ => (q + b - intOf v11).toNat)
      case atStart => exact ⟨0, [], none, 0, rfl, rfl, by omega, by simp, Lib.hid (Own.nil _ _ _), Lib.hid rfl, hx1⟩
      case round =>
        obtain ⟨p, acc, xa, xc, rfl, rfl, hp, hac, hO, hJ, hBr⟩ := hrel
        clear hx1
        by_cases hpq : p < q
        · have hpq' : (p : Int) < (q : Int) := by omega
          go_wp2_with fail
          refine (rlength_yes size ls.length b H.out _).mono ?_; rintro e w' ⟨rfl, rfl⟩
          rw [HQ.out]
          go_wp2_with fail
          go_loopw [10, 12] (fun v10 v12 wq => ∃ i acc2 xa2 xc2, v12 = .int .i64 (i : Nat) ∧ v10 = .slice xa2 (acc2 : List UInt8).length xc2 ∧ i ≤ ls.length ∧ Hid (Own wq w.heap.size 5 (.slice xa2 acc2.length xc2) (bvs acc2)) ∧ Hid (acc2 = acc ++ (ls.take i).flatMap (Stripe.chunk q b p)) ∧ Below w.heap.size w wq) (fun _ v12 _ => (ls.length - intOf v12).toNat)
          case atStart => exact ⟨0, acc, xa, xc, rfl, rfl, by omega, hO, Lib.hid (by simp), hBr⟩
          case round =>
            obtain ⟨i, acc2, xa2, xc2, rfl, rfl, hi2, hO2, hA2, hBq⟩ := hrel
            have hacl : acc2.length ≤ c := by
              have e1 := hJ.out
              rw [Stripe.join_step ls (by omega) hpq] at e1
              have e2 : (ls.flatMap (Stripe.chunk q b p)) = (ls.take i).flatMap (Stripe.chunk q b p) ++ (ls.drop i).flatMap (Stripe.chunk q b p) := by
                rw [← List.flatMap_append, List.take_append_drop]
              rw [e2, ← List.append_assoc, ← List.append_assoc, ← hA2.out] at e1
              have e3 := congrArg List.length e1
              rw [HJL.out, List.length_append, List.length_append] at e3
              omega
            by_cases hlt : i < ls.length
            · obtain ⟨rb, ro, ra, rc, rfl, c1, hb⟩ := (HR.out.ext hBq).at (List.getElem?_eq_getElem hlt)
              have he := HE.out ls[i] (List.getElem_mem hlt)
              rw [he] at c1 hb
              obtain ⟨z, hz⟩ : ∃ z, min (p + b) q = z := ⟨_, rfl⟩
              have hz' : min ((p : Int) + (b : Int)) (q : Int) = (z : Int) := by omega
              have z1 : p ≤ z := by omega
              have z2 : z ≤ q := by omega
              have hch : Hid (((bvs ls[i]).take z).drop p = bvs (Stripe.chunk q b p ls[i])) := by rw [← hz]; exact bvs_chunk _ _ _ _
              have hcl : Hid ((Stripe.chunk q b p ls[i]).length = z - p) := by rw [← hz]; exact Stripe.chunk_len (HE.out _ (List.getElem_mem hlt))
              have hcap : q ≤ rc := by
                obtain ⟨a', cap', e, hl, _, _⟩ := id hb
                simp only [Value.slice.injEq] at e
                obtain ⟨_, h8, rfl⟩ := e
                omega
              have hsc : Hid (Bytes wr (.slice (if rc = p then ra else ra.map (·.add p)) (z - p) (rc - p)) (Stripe.chunk q b p ls[i])) := by
                have h9 := (hb.take z z2).drop p z1
                rw [hch.out] at h9
                exact h9
              have hwr : IntKind.i64.wrap ((p : Int) + (b : Int)) = (p : Int) + (b : Int) := by rw [IntKind.wrap_i64]; omega
              have hb7 : (0 : Int) ≤ (z : Int) ∧ (z : Int) ≤ (rc : Int) := by omega
              have HZ := Lib.hid hz
              have hsrc := Lib.hid (Cells.src (P := Try.prog) Try.underlying22 (show Bytes wr.drew _ _ from hsc.out.ext (Ext.of_drawn wr 1)) (bvs_one _))
              have own2 := Lib.hid (show Own wr.drew w.heap.size 5 (.slice xa2 acc2.length xc2) (bvs acc2) from hO2.out)
              have hb1 : Hid ((bvs acc2).length + (bvs (Stripe.chunk q b p ls[i])).length ≤ maxLen) := Lib.hid (by rw [bvs_len, bvs_len, hcl.out]; simp [maxLen]; omega)
              have hb2 : Hid ((2 * ((bvs acc2).length + (bvs (Stripe.chunk q b p ls[i])).length) + 768) * 1 ≤ 281474976710656) := Lib.hid (by rw [bvs_len, bvs_len, hcl.out]; omega)
              have hB0 : w.heap.size ≤ wr.drew.heap.size := hBq.size
              clear hz hb he
              go_wp2_with fail
              go_region_law (refine step_of_wp rfl (wp_appx _ _ 22 22 5 (.int .u8 0) 1 rfl Try.underlying22 info_u8' rfl rfl own2.out rfl hsrc.out hb1.out hb2.out hB0 (acc2.length + (z - p)) (by rw [bvs_len, bvs_len, hcl.out]) ?_); intro ad3 c3 w3 ha)
              all_goals
                have ho := ha.1
                rw [← bvs_append] at ho
                have hl3 : Hid ((acc2 ++ Stripe.chunk q b p ls[i]).length = acc2.length + (z - p)) := Lib.hid (by rw [List.length_append, hcl.out])
                have hBw : Below w.heap.size w w3 := (Below.drew hBq).grown ha.2.1 hB0 (fun k hk => (World.ownsRow.lt own2.out k hk).1)
                go_wp2_with fail
                rw [← hl3.out] at ho ⊢
                refine ⟨⟨i + 1, acc2 ++ Stripe.chunk q b p ls[i], ad3, c3, by go_num, rfl, by omega, ho, Lib.hid ?_, hBw⟩, by simp [intOf]; omega⟩
                rw [flatMap_take_succ _ ls i hlt, ← List.append_assoc, ← hA2.out]
            · obtain rfl : i = ls.length := by omega
              clear hlt
              have hJ2 : Hid (acc2 ++ Stripe.join ls q b (p + b) = Stripe.join ls q b 0) := by
                have e1 := hJ.out
                rw [Stripe.join_step ls (by omega) hpq] at e1
                have e2 := hA2.out
                rw [List.take_length] at e2
                rw [e2, List.append_assoc]; exact e1
              go_wp2_with fail
              exact ⟨⟨p + b, acc2, xa2, xc2, by go_num, rfl, by omega, hacl, hO2, hJ2, hBq⟩, by simp [intOf]; omega⟩
        · have hpq' : (q : Int) ≤ (p : Int) := by omega
          have hfin : Hid (acc = Stripe.join ls q b 0) := by
            have e1 := hJ.out
            rw [Stripe.join_end ls (by omega), List.append_nil] at e1; exact e1
          have hacc : acc.length = c := by rw [hfin.out]; exact HJL.out
          have hs : size ≤ acc.length := by omega
          have hmin : min (size : Int) (acc.length : Int) = (size : Int) := by omega
          clear hacc
          go_wp2_with fail
          refine (rlength_yes size ls.length b H.out _).mono ?_; rintro e w' ⟨rfl, rfl⟩
          rw [HQ.out]
          go_wp2_with (refine list_of_wp rfl fun K hK => wp_slice1 22 5 (.int .u8 0) 1 _ _ _ rfl Try.underlying22 info_u8' rfl hO.out.cells 0 size (Nat.zero_le _) hs (.inl ⟨rfl, rfl⟩) (.inr rfl) fun sa sc hsc => hK _ _ ?_)
          go_ret2
          refine ⟨_, rfl, ?_, hBr⟩
          rw [List.drop_zero, ← bvs_take, hfin.out] at hsc
          exact hsc
end Go.Proofs.Ytflockpdojjgeaa
