/-
  The reference's Less and Prefix.
-/
import Derived.Test.YtnphkddhckcpmaaDkZ
import Derived.Test.YtnphkddhckcpmaaDkLp
import Derived.BigQuiet
namespace Go.Proofs.Ytnphkddhckcpmaa
open Go.RowKit Dk
set_option maxRecDepth 100000
set_option maxHeartbeats 4000000
attribute [local go_sem] min_int2 max_int2 bstr_toList bstr_size

theorem before_take {a b : Path} {i : Nat} (h : a.take i = b.take i) (ha : i ≤ a.length) (hb : i ≤ b.length) : bytesBefore a b = bytesBefore (a.drop i) (b.drop i) := by
  induction i generalizing a b with
  | zero => rfl
  | succ i ih =>
    cases a with
    | nil => simp at ha
    | cons x a =>
      cases b with
      | nil => simp at hb
      | cons y b =>
        simp only [List.take_succ_cons, List.cons.injEq] at h
        obtain ⟨rfl, h⟩ := h
        simp only [List.drop_succ_cons]
        rw [← ih h (by simpa using ha) (by simpa using hb)]
        show (decide (x < x) || (x == x && bytesBefore a b)) = _
        simp
theorem before_step {a b : Path} {i : Nat} (ha : i < a.length) (hb : i < b.length) (hn : ¬ a[i] = b[i]) : bytesBefore (a.drop i) (b.drop i) = decide (a[i].toNat < b[i].toNat) := by
  rw [← List.getElem_cons_drop (h := ha), ← List.getElem_cons_drop (h := hb)]
  show (decide (a[i] < b[i]) || (a[i] == b[i] && _)) = _
  have : (a[i] == b[i]) = false := by simpa using hn
  rw [this, Bool.false_and, Bool.or_false]
  rfl
theorem before_end {a b : Path} {i : Nat} (h : a.length = i ∨ b.length = i) (ha : i ≤ a.length) (hb : i ≤ b.length) : bytesBefore (a.drop i) (b.drop i) = decide (a.length < b.length) := by
  by_cases hbi : b.length = i
  · rw [List.drop_of_length_le (l := b) (by omega)]
    have : ¬ a.length < b.length := by omega
    rw [decide_eq_false this]
    cases a.drop i <;> rfl
  · have hai : a.length = i := by omega
    rw [List.drop_of_length_le (l := a) (by omega)]
    have : a.length < b.length := by omega
    rw [decide_eq_true this]
    cases hd : b.drop i with
    | nil => have := congrArg List.length hd; simp at this; omega
    | cons x l => rfl
theorem str_idx (p : Path) (i : Nat) (h : i < p.length) (W : World) : (Instr.index 9 (.string (bstr p)) (.int .i64 (i : Int))).run Try.prog W = .ok (.int .u8 ((p[i].toNat : Nat) : Int)) W := by
  rw [run_index_string W _ _ _ _ Try.underlying9, dif_pos ⟨by omega, by rw [bstr_size]; omega⟩]
  rfl
theorem rless_any (a b : Path) (ha : a.length ≤ 140737488351232) (hb : b.length ≤ 140737488351232) (w : World) :
    Calls Try.prog 78 #[.string (bstr a), .string (bstr b)] w fun e w' => e = .returned (.bool (bytesBefore a b)) ∧ Ext w w' := by
  go_enter Try.func78, Try.ntmps78
  go_wp2_with fail
  go_loopw [5] (fun v5 wr => ∃ i : Nat, i ≤ a.length ∧ i ≤ b.length ∧ v5 = .int .i64 (i : Nat) ∧ Hid (a.take i = b.take i) ∧ Hid (Ext w wr)) (fun v5 _ => (a.length - intOf v5).toNat)
  case atStart => exact ⟨0, by omega, by omega, rfl, Lib.hid rfl, Lib.hid (Ext.refl _)⟩
  case round =>
    obtain ⟨i, hia, hib, rfl, HT, HE⟩ := hrel
    by_cases hlt : i < a.length ∧ i < b.length
    · obtain ⟨h1, h2⟩ := hlt
      have h1' : (i : Int) < (a.length : Int) := by omega
      have h2' : (i : Int) < (b.length : Int) := by omega
      have x1 := str_idx a i h1
      have x2 := str_idx b i h2
      have hst : ∀ (h : ¬ a[i] = b[i]), bytesBefore a b = decide (a[i].toNat < b[i].toNat) := fun h => by rw [before_take HT.out hia hib, before_step h1 h2 h]
      have htk : a[i] = b[i] → a.take (i + 1) = b.take (i + 1) := fun h => by
        rw [List.take_add_one, List.take_add_one, HT.out, List.getElem?_eq_getElem h1, List.getElem?_eq_getElem h2, h]
      obtain ⟨x, hx⟩ : ∃ x, a[i] = x := ⟨_, rfl⟩
      obtain ⟨y, hy⟩ : ∃ y, b[i] = y := ⟨_, rfl⟩
      rw [hx, hy] at hst htk
      rw [hx] at x1
      rw [hy] at x2
      clear hx hy
      by_cases hxy : x = y
      · subst hxy
        have HTN := Lib.hid (htk rfl)
        clear hst htk
        go_wp2_with fail
        go_quiet (fail)
        have HEN := Lib.hid (Ext.trans HE.out (Ext.of_drawn wr nq))
        go_wp2_with fail
        exact ⟨⟨i + 1, by omega, by omega, by go_num, HTN, HEN⟩, by simp [intOf]; omega⟩
      · have q0 : ((x.toNat : Int) != (y.toNat : Int)) = true := by
          have : ¬ x.toNat = y.toNat := fun h => hxy (UInt8.toNat_inj.1 h)
          simp; omega
        have q1 : ¬ (x.toNat : Int) = (y.toNat : Int) := by
          have : ¬ x.toNat = y.toNat := fun h => hxy (UInt8.toNat_inj.1 h)
          omega
        have q2 : ¬ x.toNat = y.toNat := fun h => hxy (UInt8.toNat_inj.1 h)
        have HST := Lib.hid (hst hxy)
        clear hst htk hxy
        go_wp2_with fail
        go_quiet (fail)
        have hx1 := Ext.trans HE.out (Ext.of_drawn wr nq)
        have HEN := Lib.hid hx1
        clear hx1
        go_wp2_with fail
        go_quiet (fail)
        have HEF := Lib.hid (Ext.trans HEN.out (Ext.of_drawn _ nq))
        go_wp2_with fail
        go_ret
        rw [HST.out]
        exact ⟨by simp, HEF.out⟩
    · have hend : bytesBefore a b = decide (a.length < b.length) := by rw [before_take HT.out hia hib, before_end (by omega) hia hib]
      have HEND := Lib.hid hend
      by_cases h1 : i < a.length
      · have h1' : (i : Int) < (a.length : Int) := by omega
        have h2' : ¬ (i : Int) < (b.length : Int) := by omega
        clear hend hlt
        go_wp2_with fail
        go_ret
        rw [HEND.out]
        exact ⟨by simp, HE.out⟩
      · have h1' : ¬ (i : Int) < (a.length : Int) := by omega
        clear hend hlt
        go_wp2_with fail
        go_ret
        rw [HEND.out]
        exact ⟨by simp, HE.out⟩
theorem rprefix_any (q p : Path) (w : World) : Calls Try.prog 65 #[.string (bstr q), .string (bstr p)] w fun e w' => e = .returned (.bool (p.isPrefixOf q)) ∧ Ext w w' := by
  go_enter Try.func65, Try.ntmps65
  rcases prefix_cases q p with ⟨p1, p2, p3⟩ | ⟨p1, p2 | ⟨p2, p3⟩⟩
  · have p4 : (p.length : Int) ≤ (q.length : Int) := by omega
    rw [p1]
    go_wp2_with fail
    go_ret
    exact ⟨rfl, Ext.refl _⟩
  · have p4 : ¬ (p.length : Int) ≤ (q.length : Int) := by omega
    rw [p1]
    go_wp2_with fail
    go_ret
    exact ⟨rfl, Ext.refl _⟩
  · have p4 : (p.length : Int) ≤ (q.length : Int) := by omega
    rw [p1]
    go_wp2_with fail
    go_ret
    exact ⟨rfl, Ext.refl _⟩
end Go.Proofs.Ytnphkddhckcpmaa
