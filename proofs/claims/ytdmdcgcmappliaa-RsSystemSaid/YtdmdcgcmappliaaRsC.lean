/-
  rs: Encode of what may not be; there.
-/
import Derived.Test.YtdmdcgcmappliaaRsB
import Derived.OwnWalk
namespace Go.Proofs.Ytdmdcgcmappliaa
open Go.RowKit Gf
set_option maxRecDepth 100000
set_option maxHeartbeats 4000000
attribute [local go_sem] min_int2 max_int2

theorem enc_no (cb k nn : Nat) (X : Mat.M) (vd : Value) (D : Mat.M) (hk : 1 ≤ k) (hl : D.length ≤ 70000) (hn : ¬ (D.length = k ∧ ∀ r ∈ D, r.length = (D.getD 0 []).length)) (w : World) (h : CodeAt w cb k nn X) (hV : BRows w vd D) :
    Calls Try.prog 35 #[.pointer (some ⟨cb, 0, none⟩), vd] w fun e w' => e = .returned (.tuple #[.slice none 0 0, .int .i64 1]) ∧ w = w' := by
  obtain ⟨va, vc, rfl⟩ := hV.form
  have HC := Lib.hid h
  have HV := Lib.hid hV
  have hk0 : ((k : Int) == 0) = false := beq_eq_false_iff_ne.2 (by omega)
  obtain ⟨xg, t, c0, -, -, -, -, -⟩ := h.cells
  have HN := Lib.hid hn
  have HL := Lib.hid hl
  clear h hV hn hl
  by_cases hlen : D.length = k
  · have q0 : ((D.length : Int) != (k : Int)) = false := (bne_len _ _).trans (decide_eq_false (fun h => h hlen))
    have HLN := Lib.hid hlen
    clear hlen
    go_enter Try.func35, Try.ntmps35
    go_wp2_with fail
    refine (rsK_any cb k nn X _ HC.out).mono ?_; rintro e w' ⟨rfl, rfl⟩
    go_wp2_with fail
    refine (even_any _ D false ⟨fun e => Bool.noConfusion e, fun h => absurd ⟨HLN.out, h⟩ HN.out⟩ (by have := HL.out; unfold maxLen; omega) _ HV.out).mono ?_; rintro e w' ⟨rfl, rfl⟩
    go_wp2_with fail
    go_ret2
    exact ⟨rfl, rfl⟩
  · have q0 : ((D.length : Int) != (k : Int)) = true := (bne_len _ _).trans (decide_eq_true hlen)
    clear hlen
    go_enter Try.func35, Try.ntmps35
    go_wp2_with fail
    refine (rsK_any cb k nn X _ HC.out).mono ?_; rintro e w' ⟨rfl, rfl⟩
    go_wp2_with fail
    go_ret2
    exact ⟨rfl, rfl⟩

section
variable {W : World} {ops : Array Oper} {rest : List Oper} {o : Oper} {a : Act} {Q : Exit → Act → World → Prop} {K : Act → World → Prop}
theorem wp_int1 (s x : Operand) (ho : o.op = .call { callee := .builtin .append, args := #[s, x], argTypes := #[43, 43] })
    {B : Nat} {xa : Option Addr} {i xc q z : Nat} {L : List Nat} (hs : a.eval s = .slice xa i xc) (hx : a.eval x = .slice (some ⟨q, 0, none⟩) 1 1) (hq : q = W.heap.size)
    (hR : Own W B 3 (.slice xa i xc) (ivs (L.map Int.ofNat))) (hB : B ≤ W.heap.size) (hlen : L.length ≤ 70000)
    (hK : ∀ ad c w', Own w' B 3 (.slice ad (i + 1) c) (ivs ((L ++ [z]).map Int.ofNat)) → Below B W w' → K (a.put o.dst (.slice ad (i + 1) c)) w') : Oper.wp Try.prog o a (W.alloc (.cells #[.int .i64 (z : Int)] 3)) K Q := by
  subst hq
  have x6 : Ext W (W.alloc (.cells #[.int .i64 (z : Int)] 3)) := (Ext.refl W).alloc (Nat.le_refl _) _
  have hsrc : Cells (W.alloc (.cells #[.int .i64 (z : Int)] 3)) (.slice (some ⟨W.heap.size, 0, none⟩) 1 1) [.int .i64 (z : Int)] := (Own.new W 0 3 #[.int .i64 (z : Int)] (Nat.zero_le _) (by unfold maxLen; simp)).cells
  have o1 := hR.ext x6
  obtain ⟨a', c', e⟩ := o1.slice
  have hll : (ivs (L.map Int.ofNat)).length = L.length := by simp
  rw [hll] at e
  simp only [Value.slice.injEq] at e
  obtain ⟨rfl, rfl, rfl⟩ := e
  refine wp_appx s x 43 43 3 (.int .i64 0) 8 ho Try.underlying43 info_int rfl hs o1 hx (Cells.src Try.underlying43 hsrc (fun u hu => by rw [List.mem_singleton.1 hu]; rfl)) (by rw [hll]; simp [maxLen]; omega) (by rw [hll]; simp; omega) (Nat.le_trans hB x6.size) (L.length + 1) (by rw [hll]; simp) fun ad c w' ha => hK ad c w' ?_ ?_
  · have := ha.1
    rw [show ivs (L.map Int.ofNat) ++ [Value.int .i64 (z : Int)] = ivs ((L ++ [z]).map Int.ofNat) from by simp] at this
    exact this
  · exact Below.grown (Below.mono x6 hB) ha.2.1 (Nat.le_trans hB x6.size) (fun k hk => o1.block k hk)
end
/-- The places that have something. -/
def idx (S : List (List UInt8)) : List Nat := (List.range S.length).filter fun i => decide (0 < (S.getD i []).length)
def idxTo (S : List (List UInt8)) (i : Nat) : List Nat := (List.range i).filter fun i => decide (0 < (S.getD i []).length)
theorem idxTo_succ (S : List (List UInt8)) (i : Nat) : idxTo S (i + 1) = if 0 < (S.getD i []).length then idxTo S i ++ [i] else idxTo S i := by
  unfold idxTo
  rw [List.range_succ, List.filter_append]
  by_cases h : 0 < (S.getD i []).length
  · rw [if_pos h, List.filter_cons, if_pos (decide_eq_true h)]; rfl
  · rw [if_neg h, List.filter_cons, if_neg (by rw [decide_eq_false h]; exact Bool.false_ne_true)]; simp
theorem there_yes (v : Value) (S : List (List UInt8)) (n : Nat) (hl : S.length ≤ 70000) (hn : ∀ r ∈ S, r.length = 0 ∨ r.length = n) (w : World) (hV : BRows w v S) :
    Calls Try.prog 61 #[v] w fun e w' => ∃ xa xc m L, Hid (L = idx S ∧ m = if L = [] then 0 else n) ∧ e = .returned (.tuple #[.slice xa L.length xc, .int .i64 (m : Nat), .bool true]) ∧ Ints w' (.slice xa L.length xc) (L.map Int.ofNat) ∧ Ext w w' := by
  obtain ⟨a, cap, rfl⟩ := hV.form
  have HV := Lib.hid hV
  have HN := Lib.hid hn
  clear hV hn
  go_enter Try.func61, Try.ntmps61
  go_wp2_with fail
  go_loopw [5, 6, 11] (fun v5 v6 v11 wr => ∃ (i m : Nat) (L : List Nat) (xa : Option Addr) (xc : Nat), i ≤ S.length ∧ v11 = .int .i64 (i : Nat) ∧ v6 = .int .i64 (m : Nat) ∧ v5 = .slice xa L.length xc ∧ Hid (idxTo S i = L ∧ (m = if L = [] then 0 else n)) ∧ Hid (Own wr w.heap.size 3 (.slice xa L.length xc) (ivs (L.map Int.ofNat))) ∧ Ext w wr) (fun _ _ v11 _ => (S.length - intOf v11).toNat)
  case atStart => exact ⟨0, 0, [], _, _, by omega, rfl, rfl, rfl, Lib.hid ⟨rfl, rfl⟩, Lib.hid (Own.nil _ _ _), Ext.refl _⟩
  case round =>
    obtain ⟨i, m, L, xa, xc, hi, rfl, rfl, rfl, hJ, hO, hE⟩ := hrel
    by_cases hlt : i < S.length
    · have hlt' : (i : Int) < (S.length : Int) := by omega
      obtain ⟨rb, ro, ra, rc, rfl, c1, -⟩ := (HV.out.ext hE).at (List.getElem?_eq_getElem hlt)
      obtain ⟨p, hp⟩ : ∃ p, S[i].length = p := ⟨_, rfl⟩
      have hpd : (S.getD i []).length = p := by rw [Mat.getD_lt hlt []]; exact hp
      have hpn := HN.out _ (List.getElem_mem hlt)
      rw [hp] at c1 hpn
      have hLl : L.length ≤ i := by
        rw [← hJ.out.1]
        unfold idxTo
        exact Nat.le_trans (List.length_filter_le _ _) (by simp)
      have hs := idxTo_succ S i
      rw [hpd, hJ.out.1] at hs
      by_cases hp0 : p = 0
      · rw [if_neg (by omega)] at hs
        have q1 : ((p : Int) == 0) = true := beq_iff_eq.2 (by omega)
        have HS := Lib.hid hs
        clear hs hpd hp hp0 hpn
        go_wp2_with fail
        exact ⟨⟨i + 1, m, L, _, _, by omega, by go_num, rfl, rfl, Lib.hid ⟨HS.out, hJ.out.2⟩, hO, hE⟩, by simp [intOf]; omega⟩
      · rw [if_pos (by omega)] at hs
        have q1 : ((p : Int) == 0) = false := beq_eq_false_iff_ne.2 (by omega)
        have hp1 : (0 : Int) < (p : Int) := by omega
        have HS := Lib.hid hs
        have hpe : p = n := by omega
        have HPE := Lib.hid hpe
        have W := Lib.hid (show idxTo S (i + 1) = L ++ [i] ∧ (n = if L ++ [i] = [] then 0 else n) from ⟨hs, by rw [if_neg (by simp)]⟩)
        clear hs hpd hp hp0 hpn
        have hm : m = 0 ∨ m = p := by
          have := hJ.out.2
          by_cases e : L = []
          · rw [if_pos e] at this; exact .inl this
          · rw [if_neg e] at this; exact .inr (by omega)
        rcases hm with rfl | rfl
        · obtain rfl : p = n := HPE.out
          have hB0 := Lib.hid (And.intro hO.out (And.intro hE.size hLl))
          go_wp2_with (at_builtin; refine list_of_wp rfl fun K hK => wp_int1 _ _ rfl rfl rfl rfl hB0.out.1 hB0.out.2.1 (by have := hB0.out.2.2; omega) fun ad c w7 hN hB7 => hK _ _ ?_)
          have HN := Lib.hid (show Own w7 w.heap.size 3 (.slice ad (L ++ [i]).length c) (ivs ((L ++ [i]).map Int.ofNat)) from by rw [List.length_append]; exact hN)
          have hE7 := Below.trans hE hB7
          clear hN hB7
          go_wp2_with fail
          exact ⟨⟨i + 1, p, L ++ [i], ad, c, by omega, by go_num, rfl, by rw [List.length_append]; rfl, W, HN, hE7⟩, by simp [intOf]; omega⟩
        · have q2 : ((m : Int) != (m : Int)) = false := by simp
          obtain rfl : m = n := HPE.out
          have hB0 := Lib.hid (And.intro hO.out (And.intro hE.size hLl))
          go_wp2_with (at_builtin; refine list_of_wp rfl fun K hK => wp_int1 _ _ rfl rfl rfl rfl hB0.out.1 hB0.out.2.1 (by have := hB0.out.2.2; omega) fun ad c w7 hN hB7 => hK _ _ ?_)
          have HN := Lib.hid (show Own w7 w.heap.size 3 (.slice ad (L ++ [i]).length c) (ivs ((L ++ [i]).map Int.ofNat)) from by rw [List.length_append]; exact hN)
          have hE7 := Below.trans hE hB7
          clear hN hB7
          go_wp2_with fail
          exact ⟨⟨i + 1, m, L ++ [i], ad, c, by omega, by go_num, rfl, by rw [List.length_append]; rfl, W, HN, hE7⟩, by simp [intOf]; omega⟩
    · obtain rfl : i = S.length := by omega
      have hN := hO.out.cells
      have HI := Lib.hid (show idx S = L from hJ.out.1)
      have hge : ¬ (S.length : Int) < (S.length : Int) := by omega
      clear hlt
      go_wp2_with fail
      go_ret3
      exact ⟨_, _, m, L, Lib.hid ⟨HI.out.symm, hJ.out.2⟩, rfl, hN, hE⟩
end Go.Proofs.Ytdmdcgcmappliaa
