/-
  stripe.Join: the data of rows.
-/
import Derived.Test.YtflockpdojjgeaaStrB
import Derived.Test.YtflockpdojjgeaaStrPure2
namespace Go.Proofs.Ytflockpdojjgeaa
open Go.RowKit
set_option maxRecDepth 100000
set_option maxHeartbeats 4000000
attribute [local go_sem] min_int2 max_int2

theorem make_cap {P : Program} (t e : TypeId) (z : Value) (bytes n c : Nat) (ht : P.underlying t = some (.slice e))
    (hi : (P.info? e).map (fun i => (i.zero, i.size, i.bytes)) = some (some z, 1, bytes)) (hz1 : z.cells = #[z]) (hnc : n ≤ c) (hb : bytes * c ≤ 281474976710656) (hn : c ≤ 9223372036854775807) (w : World) :
    (Instr.makeSlice t (.int .i64 (n : Int)) (.int .i64 (c : Int))).run P w = .ok (.slice (some ⟨w.heap.size, 0, none⟩) n c) (w.alloc (.cells (Array.replicate c z) e)) := by
  obtain ⟨i, hi, hz, hs, hby⟩ := info_parts hi
  have hb' : (i.bytes : Int) * (c : Int) ≤ 281474976710656 := by
    have h : ((i.bytes * c : Nat) : Int) ≤ 281474976710656 := by rw [hby]; omega
    rwa [Int.natCast_mul] at h
  rw [run_make (P := P) w t e i z ht hi hz .i64 .i64 n c (by omega) (by omega) hb' (by omega)]
  congr 4
  rw [hz1, hs, Nat.mul_one, Int.toNat_natCast]
  apply Array.ext
  · simp [madeCells]
  · intro k h1 h2
    simp [madeCells, Nat.mod_one]

/-- The i-th row, its value and its cell. -/
theorem BRows.at {w : World} {a : Option Addr} {n cap : Nat} {ls : List (List UInt8)} (h : BRows w (.slice a n cap) ls) {i : Nat} {l : List UInt8} (hl : ls[i]? = some l) :
    ∃ b o ra rc, a = some ⟨b, o, none⟩ ∧ w.cell? ⟨b, o + i, none⟩ = some (.slice ra l.length rc) ∧ Bytes w (.slice ra l.length rc) l := by
  obtain ⟨vs, h1, h2, h3⟩ := h
  have hi : i < vs.length := by have := (List.getElem?_eq_some_iff.1 hl).1; omega
  obtain ⟨b, o, e, hc⟩ := h1.at (List.getElem?_eq_getElem hi)
  have hb := h3 i vs[i] l (List.getElem?_eq_getElem hi) hl
  obtain ⟨ra, rc, e2, -, -, -⟩ := id hb
  rw [bvs_len] at e2
  rw [e2] at hc hb
  exact ⟨b, o, ra, rc, e, hc, hb⟩
theorem BRows.len {w : World} {a : Option Addr} {n cap : Nat} {ls : List (List UInt8)} (h : BRows w (.slice a n cap) ls) : n = ls.length := by
  obtain ⟨vs, ⟨a', cap', e, _⟩, h2, _⟩ := h
  simp only [Value.slice.injEq] at e
  omega

theorem join_may (v : Value) (ls : List (List UInt8)) (size b : Int) (h : ¬ May size ls.length b) (w : World) (hR : BRows w v ls) :
    Calls Try.prog 17 #[v, .int .i64 size, .int .i64 b] w fun e w' => e = .returned (.tuple #[.slice none 0 0, .bool false]) ∧ Ext w w' := by
  obtain ⟨a, n, cap, rfl⟩ : ∃ a n cap, v = .slice a n cap := by obtain ⟨vs, ⟨a, cap, e, _⟩, _⟩ := hR; exact ⟨_, _, _, e⟩
  obtain rfl := hR.len
  have H := Lib.hid h
  clear h
  go_enter Try.func17, Try.ntmps17
  go_wp2_with (go_at_call 40; refine (may_no _ _ _ H.out _).mono ?_; rintro e w' ⟨rfl, rfl⟩)
  go_ret2
  exact ⟨rfl, Ext.refl _⟩

theorem join_odd (v : Value) (ls : List (List UInt8)) (size b : Nat) (h : May size ls.length b) (hodd : ¬ ∀ r ∈ ls, r.length = Stripe.len size ls.length b) (hlen : ∀ r ∈ ls, r.length ≤ maxLen) (w : World) (hR : BRows w v ls) :
    Calls Try.prog 17 #[v, .int .i64 size, .int .i64 b] w fun e w' => e = .returned (.tuple #[.slice none 0 0, .bool false]) ∧ Ext w w' := by
  obtain ⟨a, n, cap, rfl⟩ : ∃ a n cap, v = .slice a n cap := by obtain ⟨vs, ⟨a, cap, e, _⟩, _⟩ := hR; exact ⟨_, _, _, e⟩
  obtain rfl := hR.len
  have H := Lib.hid h
  have HR := Lib.hid hR
  have HODD := Lib.hid hodd
  have HL := Lib.hid hlen
  clear hR hodd hlen
  obtain ⟨h1, h2, h3, h4, h5, h6⟩ := h
  obtain ⟨q, hq⟩ : ∃ q, q = Stripe.len size ls.length b := ⟨_, rfl⟩
  have hq2 : q ≤ 70000 := by
    have := (Stripe.len_mul (n := size) (k := ls.length) (b := b) (by omega) (by omega)).2
    rw [← hq] at this
    have h7 : q ≤ q * ls.length := Nat.le_mul_of_pos_right _ (by omega)
    omega
  have HQ := Lib.hid hq
  go_enter Try.func17, Try.ntmps17
  go_wp2_with (first | (go_at_call 40; refine (may_yes _ _ _ H.out _).mono ?_; rintro e w' ⟨rfl, rfl⟩) | (go_at_call 20; refine (length_yes _ _ _ H.out _).mono ?_; rintro e w1 ⟨rfl, hx1⟩))
  rw [← hq]
  clear hq
  go_loop [29] (fun v29 => ∃ i : Nat, i ≤ ls.length ∧ v29 = .int .i64 i ∧ Hid (∀ j r, j < i → ls[j]? = some r → r.length = q)) (fun v29 => (ls.length - intOf v29).toNat)
  case atStart => exact ⟨0, by omega, rfl, Lib.hid fun j r h => by omega⟩
  case round =>
    obtain ⟨i, hi, rfl, hJ⟩ := hrel
    by_cases hlt : i < ls.length
    · obtain ⟨rb, ro, ra, rc, rfl, c1, hb⟩ := (HR.out.ext hx1).at (List.getElem?_eq_getElem hlt)
      have hrl := HL.out ls[i] (List.getElem_mem hlt)
      unfold maxLen at hrl
      by_cases he : ls[i].length = q
      · have he' : (((ls[i].length : Nat) : Int) != (q : Int)) = false := by simp [he]
        have HE := Lib.hid he
        clear he hb
        go_wp2
        go_round
        case rel =>
          refine ⟨i + 1, by omega, by go_num, Lib.hid fun j r hj hr => ?_⟩
          by_cases hji : j = i
          · subst hji
            rw [List.getElem?_eq_getElem hlt] at hr
            simp only [Option.some.injEq] at hr
            rw [← hr]; exact HE.out
          · exact hJ.out j r (by omega) hr
        case measure => simp [intOf]; omega
      · have he' : (((ls[i].length : Nat) : Int) != (q : Int)) = true := by simp; omega
        clear he hb
        go_wp2
        go_ret2
        exact ⟨rfl, hx1⟩
    · exfalso
      refine HODD.out fun r hr => ?_
      obtain ⟨j, hj⟩ := List.getElem?_of_mem hr
      rw [← HQ.out]
      exact hJ.out j r (by have := (List.getElem?_eq_some_iff.1 hj).1; omega) hj

theorem flatMap_take_succ {α β : Type} (f : α → List β) (l : List α) (i : Nat) (h : i < l.length) : (l.take (i + 1)).flatMap f = (l.take i).flatMap f ++ f l[i] := by
  rw [List.take_succ_eq_append_getElem h, List.flatMap_append, List.flatMap_cons, List.flatMap_nil, List.append_nil]
theorem bvs_chunk (l : List UInt8) (q b p : Nat) : ((bvs l).take (min (p + b) q)).drop p = bvs (Stripe.chunk q b p l) := by
  unfold Stripe.chunk
  rw [bvs_take, bvs_drop, List.drop_take]

theorem join_yes (v : Value) (ls : List (List UInt8)) (size b : Nat) (h : May size ls.length b) (heven : ∀ r ∈ ls, r.length = Stripe.len size ls.length b) (w : World) (hR : BRows w v ls) :
    Calls Try.prog 17 #[v, .int .i64 size, .int .i64 b] w fun e w' =>
      ∃ x, e = .returned (.tuple #[x, .bool true]) ∧ Bytes w' x ((Stripe.join ls (Stripe.len size ls.length b) b 0).take size) ∧ Ext w w' := by
  obtain ⟨a, n, cap, rfl⟩ : ∃ a n cap, v = .slice a n cap := by obtain ⟨vs, ⟨a, cap, e, _⟩, _⟩ := hR; exact ⟨_, _, _, e⟩
  obtain rfl := hR.len
  have H := Lib.hid h
  have HR := Lib.hid hR
  clear hR
  obtain ⟨h1, h2, h3, h4, h5, h6⟩ := h
  obtain ⟨q, hq⟩ : ∃ q, q = Stripe.len size ls.length b := ⟨_, rfl⟩
  rw [← hq] at heven ⊢
  have hmul := Stripe.len_mul (n := size) (k := ls.length) (b := b) (by omega) (by omega)
  rw [← hq] at hmul
  have hq2 : q ≤ 70000 := by
    have h7 : q ≤ q * ls.length := Nat.le_mul_of_pos_right _ (by omega)
    omega
  obtain ⟨c, hc⟩ : ∃ c, q * ls.length = c := ⟨_, rfl⟩
  have hci : (q : Int) * (ls.length : Int) = (c : Int) := by rw [← hc]; simp
  have hc2 : c ≤ 70000 := by omega
  have hc3 : size ≤ c := by omega
  have HE := Lib.hid heven
  have HJL : Hid ((Stripe.join ls q b 0).length = c) := by
    have := Stripe.join_len ls (n := q) (b := b) (by omega) heven _ 0 (Nat.le_refl _)
    rw [Nat.sub_zero, Nat.mul_comm, hc] at this; exact this
  clear heven
  have hmk := make_cap (P := Try.prog) 22 5 (.int .u8 0) 1 0 c Try.underlying22 info_u8' rfl (Nat.zero_le _) (by omega) (by omega)
  have hmk' : ∀ w, (Instr.makeSlice 22 (.int .i64 0) (.int .i64 (c : Int))).run Try.prog w = .ok (.slice (some ⟨w.heap.size, 0, none⟩) 0 c) (w.alloc (.cells (Array.replicate c (.int .u8 0)) 5)) := hmk
  clear hmk hc hmul
  have HQ := Lib.hid hq
  go_enter Try.func17, Try.ntmps17
  go_wp2_with (first | (go_at_call 40; refine (may_yes _ _ _ H.out _).mono ?_; rintro e w' ⟨rfl, rfl⟩) | (go_at_call 20; refine (length_yes _ _ _ H.out _).mono ?_; rintro e w1 ⟨rfl, hx1⟩))
  rw [← hq]
  clear hq
  have HR1 := Lib.hid (HR.out.ext hx1)
  go_loop [29] (fun v29 => ∃ i : Nat, i ≤ ls.length ∧ v29 = .int .i64 i) (fun v29 => (ls.length - intOf v29).toNat)
  case atStart => exact ⟨0, by omega, rfl⟩
  case round =>
    obtain ⟨i, hi, rfl⟩ := hrel
    by_cases hlt : i < ls.length
    · obtain ⟨rb, ro, ra, rc, rfl, c1, hb⟩ := HR1.out.at (List.getElem?_eq_getElem hlt)
      have he := HE.out ls[i] (List.getElem_mem hlt)
      rw [he] at c1
      clear hb he
      go_wp2
      go_round
      case rel => exact ⟨i + 1, by omega, by go_num⟩
      case measure => simp [intOf]; omega
    · obtain rfl : i = ls.length := by omega
      clear hlt
      go_wp2_with fail
      have hB0 : Ext w (w1.alloc (.cells (Array.replicate c (.int .u8 0)) 5)) := hx1.alloc hx1.size _
      have hO0 : Own (w1.alloc (.cells (Array.replicate c (.int .u8 0)) 5)) w.heap.size 5 (.slice (some ⟨w1.heap.size, 0, none⟩) 0 c) (bvs []) :=
        Own.mk (cs := []) hx1.size (Row.new _ _ _) (Nat.zero_le _) (by simp) rfl (by simp [maxLen]; omega)
      generalize hw2 : w1.alloc (.cells (Array.replicate c (.int .u8 0)) 5) = w2 at hB0 hO0 ⊢
      have HO := Lib.hid hO0
      clear hw2 hmk' hO0
      go_loopw [12, 13] (fun v12 v13 wr => ∃ p acc xa xc, v13 = .int .i64 (p : Nat) ∧ v12 = .slice xa (acc : List UInt8).length xc ∧ p ≤ q + b ∧ acc.length ≤ c ∧ Hid (Own wr w.heap.size 5 (.slice xa acc.length xc) (bvs acc)) ∧ Hid (acc ++ Stripe.join ls q b p = Stripe.join ls q b 0) ∧ Below w.heap.size w wr) (fun _ v13 _ => (q + b - intOf v13).toNat)
      case atStart => exact ⟨0, [], some ⟨w1.heap.size, 0, none⟩, c, rfl, rfl, by omega, by simp, HO, Lib.hid rfl, hB0⟩
      case round =>
        obtain ⟨p, acc, xa, xc, rfl, rfl, hp, hac, hO, hJ, hBr⟩ := hrel
        by_cases hpq : p < q
        · have hpq' : (p : Int) < (q : Int) := by omega
          go_wp2_with fail
          go_loopw [12, 50] (fun v12 v50 wq => ∃ i acc2 xa2 xc2, v50 = .int .i64 (i : Nat) ∧ v12 = .slice xa2 (acc2 : List UInt8).length xc2 ∧ i ≤ ls.length ∧ Hid (Own wq w.heap.size 5 (.slice xa2 acc2.length xc2) (bvs acc2)) ∧ Hid (acc2 = acc ++ (ls.take i).flatMap (Stripe.chunk q b p)) ∧ Below w.heap.size w wq) (fun _ v50 _ => (ls.length - intOf v50).toNat)
          case atStart => exact ⟨0, acc, xa, xc, rfl, rfl, by omega, hO, Lib.hid (by simp), hBr⟩
          case round =>
            obtain ⟨i, acc2, xa2, xc2, rfl, rfl, hi2, hO2, hA2, hBq⟩ := hrel
            have hacl : acc2.length ≤ c := by
              have e1 := hJ.out
              rw [Stripe.join_step ls (by omega) hpq] at e1
              have e2 : (ls.flatMap (Stripe.chunk q b p)) = (ls.take i).flatMap (Stripe.chunk q b p) ++ (ls.drop i).flatMap (Stripe.chunk q b p) := by
                rw [← List.flatMap_append, List.take_append_drop]
              rw [e2, ← List.append_assoc, ← List.append_assoc, ← hA2.out] at e1
              have e3 := congrArg List.length e1
              rw [HJL.out, List.length_append, List.length_append] at e3
              omega
            by_cases hlt : i < ls.length
            · obtain ⟨rb, ro, ra, rc, rfl, c1, hb⟩ := (HR.out.ext hBq).at (List.getElem?_eq_getElem hlt)
              have he := HE.out ls[i] (List.getElem_mem hlt)
              rw [he] at c1 hb
              have hbb := Lib.hid hb
              clear hb he
              obtain ⟨z, hz⟩ : ∃ z, min (p + b) q = z := ⟨_, rfl⟩
              have hz' : min ((p : Int) + (b : Int)) (q : Int) = (z : Int) := by omega
              have z1 : p ≤ z := by omega
              have z2 : z ≤ q := by omega
              have hch : Hid (((bvs ls[i]).take z).drop p = bvs (Stripe.chunk q b p ls[i])) := by rw [← hz]; exact bvs_chunk _ _ _ _
              have hcl : Hid ((Stripe.chunk q b p ls[i]).length = z - p) := by rw [← hz]; exact Stripe.chunk_len (HE.out _ (List.getElem_mem hlt))
              have HZ := Lib.hid hz
              clear hz
              go_wp2_with (first | (refine list_of_wp rfl fun K hK => wp_slice1 22 5 (.int .u8 0) 1 _ _ _ rfl Try.underlying22 info_u8' rfl hbb.out p z z1 z2 (.inr rfl) (.inr rfl) fun sa sc hsc => hK _ _ ?_) | (refine list_of_wp rfl fun K hK => wp_appx _ _ 22 22 5 (.int .u8 0) 1 rfl Try.underlying22 info_u8' rfl rfl hO2.out rfl (Cells.src Try.underlying22 (show Bytes _ _ (Stripe.chunk q b p ls[i]) from hch.out ▸ hsc) (bvs_one _)) (by rw [bvs_len, bvs_len, hcl.out]; simp [maxLen]; omega) (by rw [bvs_len, bvs_len, hcl.out]; omega) hBq.size (acc2.length + (z - p)) (by rw [bvs_len, bvs_len, hcl.out]) fun ad3 c3 w3 ha => hK _ _ ?_))
              have ho := ha.1
              rw [← bvs_append] at ho
              have hl3 : (acc2 ++ Stripe.chunk q b p ls[i]).length = acc2.length + (z - p) := by rw [List.length_append, hcl.out]
              rw [← hl3] at ho ⊢
              refine ⟨⟨i + 1, acc2 ++ Stripe.chunk q b p ls[i], ad3, c3, by go_num, rfl, by omega, ho, Lib.hid ?_, hBq.grown ha.2.1 hBq.size (fun k hk => (World.ownsRow.lt hO2.out k hk).1)⟩, by simp [intOf]; omega⟩
              rw [flatMap_take_succ _ ls i hlt, ← List.append_assoc, ← hA2.out]
            · obtain rfl : i = ls.length := by omega
              clear hlt
              have hJ2 : Hid (acc2 ++ Stripe.join ls q b (p + b) = Stripe.join ls q b 0) := by
                have e1 := hJ.out
                rw [Stripe.join_step ls (by omega) hpq] at e1
                have e2 := hA2.out
                rw [List.take_length] at e2
                rw [e2, List.append_assoc]; exact e1
              go_wp2
              exact ⟨⟨p + b, acc2, xa2, xc2, by go_num, rfl, by omega, hacl, hO2, hJ2, hBq⟩, by simp [intOf]; omega⟩
        · have hpq' : (q : Int) ≤ (p : Int) := by omega
          have hfin : Hid (acc = Stripe.join ls q b 0) := by
            have e1 := hJ.out
            rw [Stripe.join_end ls (by omega), List.append_nil] at e1; exact e1
          have hacc : acc.length = c := by rw [hfin.out]; exact HJL.out
          have hs : size ≤ acc.length := by omega
          clear hacc
          go_wp2_with (refine list_of_wp rfl fun K hK => wp_slice1 22 5 (.int .u8 0) 1 _ _ _ rfl Try.underlying22 info_u8' rfl hO.out.cells 0 size (Nat.zero_le _) hs (.inl ⟨rfl, rfl⟩) (.inr rfl) fun sa sc hsc => hK _ _ ?_)
          go_ret2
          refine ⟨_, rfl, ?_, hBr⟩
          rw [List.drop_zero, ← bvs_take, hfin.out] at hsc
          exact hsc
end Go.Proofs.Ytflockpdojjgeaa
