/-
  The fuse's functions; New; begin.
-/
import Derived.Test.YtnphkddhckcpmaaDkA
import Derived.Deep.RegionHeld3
import Derived.Test.YtnphkddhckcpmaaUntil
namespace Go.Proofs.Ytnphkddhckcpmaa
open Go.RowKit Dk
set_option maxRecDepth 100000
set_option maxHeartbeats 4000000
attribute [local go_sem] min_int2 max_int2 bstr_toList

theorem wp_cutw (slots : List Nat) (i : Nat) (v : Value) (R : World → Prop) {P : Program} {id : Nat} {ops : Array Oper} {b : Bool} {Q : Exit → Act → World → Prop} {L : List Value} {d : List Deferred} {w : World}
    (h1 : (Code.region id ops b).wp P (CutPost (L.set i v) slots d R) ⟨L.toArray, d⟩ w) (h2 : ∀ (u : Nat → Value) (w' : World), R w' → Q .normal ⟨(setAll (L.set i v) slots u).toArray, d⟩ w') : (Code.region id ops b).wp P Q ⟨L.toArray, d⟩ w :=
  Code.wp_mono (fun e a' w' h => by
    cases e with
    | normal => obtain ⟨hR, u, rfl⟩ := h; exact h2 u w' hR
    | _ => exact h.elim) h1
def zops : Option FS → Nat
  | none => 0
  | some z => z.ops
/-- The fuse's block alone. -/
def Fb (fp : Option Nat) (b : Nat) : Prop := fp = some b

theorem newfuse_any (w : World) : Calls Try.prog 14 #[] w fun e w' => e = .returned (.pointer (some ⟨w.heap.size, 0, none⟩)) ∧ FzAt w' (some w.heap.size) (some ⟨0, 0, false⟩) ∧ Ext w w' ∧ w'.heap.size = w.heap.size + 1 := by
  have hF : FzAt (w.alloc (.cells #[.int .i64 0, .int .i64 0, .bool false] 74)) (some w.heap.size) (some ⟨0, 0, false⟩) := ⟨Row.new w _ _, (by decide : (-9223372036854775808 : Int) ≤ 0), (by decide : (0 : Int) ≤ 9223372036854775807)⟩
  have hX : Ext w (w.alloc (.cells #[.int .i64 0, .int .i64 0, .bool false] 74)) := (Ext.refl w).alloc (Nat.le_refl _) _
  have H := Lib.hid (And.intro hF hX)
  clear hF hX
  go_enter Try.func14, Try.ntmps14
  go_wp2_with fail
  go_ret
  exact ⟨rfl, H.out.1, H.out.2, by simp⟩
theorem blown_any (b : Nat) (z : FS) (w : World) (h : FzAt w (some b) (some z)) : Calls Try.prog 18 #[.pointer (some ⟨b, 0, none⟩)] w fun e w' => e = .returned (.bool z.blown) ∧ w = w' := by
  obtain ⟨h1, -⟩ := h
  have c := h1.cell (i := 2) (v := .bool z.blown) rfl
  clear h1
  go_enter Try.func18, Try.ntmps18
  go_wp2_with fail
  go_ret
  exact ⟨rfl, rfl⟩
theorem ops_any (b : Nat) (z : FS) (w : World) (h : FzAt w (some b) (some z)) : Calls Try.prog 19 #[.pointer (some ⟨b, 0, none⟩)] w fun e w' => e = .returned (.int .i64 z.ops) ∧ w = w' := by
  obtain ⟨h1, -⟩ := h
  have c := h1.cell (i := 1) (v := .int .i64 z.ops) rfl
  clear h1
  go_enter Try.func19, Try.ntmps19
  go_wp2_with fail
  go_ret
  exact ⟨rfl, rfl⟩
theorem fset_any (b : Nat) (z : FS) (n : Int) (hn : -9223372036854775808 ≤ n ∧ n ≤ 9223372036854775807) (w : World) (h : FzAt w (some b) (some z)) :
    Calls Try.prog 16 #[.pointer (some ⟨b, 0, none⟩), .int .i64 n] w fun e w' => e = .returned (.tuple #[]) ∧ FzAt w' (some b) (some ⟨n, 0, false⟩) ∧ Chg (Fb (some b)) w w' ∧ w'.heap.size = w.heap.size := by
  obtain ⟨h1, -⟩ := h
  have r1 := ((h1.set 0 (.int .i64 n)).set 1 (.int .i64 0)).set 2 (.bool false)
  have H := Lib.hid r1
  have c0 := h1.cell (i := 0) rfl
  have c1 := h1.cell (i := 1) rfl
  have c2 := h1.cell (i := 2) rfl
  have u0 := h1.unfrozen 0
  have u1 := h1.unfrozen 1
  have u2 := h1.unfrozen 2
  have HN := Lib.hid hn
  clear h1 r1
  go_enter Try.func16, Try.ntmps16
  go_wp2_with fail
  go_end0
  have r2 := H.out
  refine ⟨rfl, ⟨by simpa using r2, HN.out.1, HN.out.2⟩, (((Chg.refl (Fb (some b)) _).at b 0 (.inl rfl) _).at b 1 (.inl rfl) _).at b 2 (.inl rfl) _, by simp⟩
theorem tick_any (fp : Option Nat) (z : Option FS) (w : World) (h : FzAt w fp z) (hz : zops z < 1099511627776) :
    Calls Try.prog 56 #[fptr fp] w fun e w' => e = .returned (.bool (ticks z).1) ∧ FzAt w' fp (ticks z).2 ∧ Chg (Fb fp) w w' ∧ w'.heap.size = w.heap.size := by
  cases fp with
  | none =>
    cases z with
    | some z => exact h.elim
    | none =>
      show Calls _ _ #[.pointer none] _ _
      go_enter Try.func56, Try.ntmps56
      go_wp2_with fail
      go_ret
      exact ⟨rfl, trivial, Chg.refl _ _, rfl⟩
  | some b =>
    cases z with
    | none => exact h.elim
    | some z =>
      obtain ⟨n, k, bl⟩ := z
      obtain ⟨h1, n1, n2⟩ := h
      have hz : k < 1099511627776 := hz
      simp only at h1 n1 n2
      show Calls _ _ #[.pointer (some ⟨b, 0, none⟩)] _ _
      have c2 := h1.cell (i := 2) (v := .bool bl) rfl
      cases bl with
      | true =>
        have H := Lib.hid h1
        clear h1
        go_enter Try.func56, Try.ntmps56
        go_wp2_with fail
        go_ret
        exact ⟨rfl, ⟨H.out, n1, n2⟩, Chg.refl _ _, rfl⟩
      | false =>
        have c0 := h1.cell (i := 0) (v := .int .i64 n) rfl
        have c1 := h1.cell (i := 1) (v := .int .i64 k) rfl
        have u1 := h1.unfrozen 1
        have r1 := h1.set 1 (.int .i64 ((k : Int) + 1))
        have r1 : Row (w.setCell ⟨b, 1, none⟩ (.int .i64 ((k : Int) + 1))) b 74 #[.int .i64 n, .int .i64 ((k : Int) + 1), .bool false] := by simpa using r1
        have g1 : Chg (Fb (some b)) w (w.setCell ⟨b, 1, none⟩ (.int .i64 ((k : Int) + 1))) ∧ (w.setCell ⟨b, 1, none⟩ (.int .i64 ((k : Int) + 1))).heap.size = w.heap.size := ⟨(Chg.refl (Fb (some b)) _).at b 1 (.inl rfl) _, setCell_size _ _ _⟩
        have R1 := Lib.hid r1
        have G1 := Lib.hid g1
        clear h1 r1 g1
        go_enter Try.func56, Try.ntmps56
        go_wp2_with fail
        generalize w.setCell ⟨b, 1, none⟩ (.int .i64 ((k : Int) + 1)) = w1 at R1 G1 ⊢
        clear c0 c1 c2 u1
        have c0 := R1.out.cell (i := 0) (v := .int .i64 n) rfl
        have c1 := R1.out.cell (i := 1) (v := .int .i64 ((k : Int) + 1)) rfl
        have c2 := R1.out.cell (i := 2) (v := .bool false) rfl
        have u2 := R1.out.unfrozen 2
        have S0 : (fun w' : World => w'.cell? ⟨b, 0, none⟩ = some (.int .i64 n) ∧ w'.cell? ⟨b, 1, none⟩ = some (.int .i64 ((k : Int) + 1))) w1.drew := ⟨c0, c1⟩
        have hS : ∀ v, (fun w' : World => w'.cell? ⟨b, 0, none⟩ = some (.int .i64 n) ∧ w'.cell? ⟨b, 1, none⟩ = some (.int .i64 ((k : Int) + 1))) (w1.drew.setCell ⟨b, 2, none⟩ v) := fun v => by
          have r2 := R1.out.drew.set 2 v
          exact ⟨r2.cell (i := 0) rfl, r2.cell (i := 1) rfl⟩
        have fin : ∀ d : Bool, d = decide (0 < n ∧ n ≤ (k : Int) + 1) → FzAt (w1.drew.setCell ⟨b, 2, none⟩ (.bool d)) (some b) (ticks (some ⟨n, k, false⟩)).2 ∧ Chg (Fb (some b)) w (w1.drew.setCell ⟨b, 2, none⟩ (.bool d)) ∧ (w1.drew.setCell ⟨b, 2, none⟩ (.bool d)).heap.size = w.heap.size := fun d hd => by
          have r2 := R1.out.drew.set 2 (.bool d)
          subst hd
          exact ⟨⟨by simpa using r2, n1, n2⟩, G1.out.1.drew.at b 2 (.inl rfl) _, by rw [setCell_size]; exact G1.out.2⟩
        have FIN := Lib.hid fin
        clear fin
        by_cases hn : 0 < n
        · by_cases hk : n ≤ (k : Int) + 1
          · have HD := Lib.hid (show true = decide (0 < n ∧ n ≤ (k : Int) + 1) by simp [hn, hk])
            go_region_held3 (fun w' : World => w'.cell? ⟨b, 0, none⟩ = some (.int .i64 n) ∧ w'.cell? ⟨b, 1, none⟩ = some (.int .i64 ((k : Int) + 1))) (first | assumption | exact hS _) (fail)
            go_wp2_with fail
            go_ret
            exact ⟨rfl, (FIN.out true HD.out).1, (FIN.out true HD.out).2⟩
          · have hk' : (k : Int) + 1 < n := by omega
            have HD := Lib.hid (show false = decide (0 < n ∧ n ≤ (k : Int) + 1) by simp [hk])
            have hkd : decide (n ≤ (k : Int) + 1) = false := by simpa using hk'
            clear hk
            go_region_held3 (fun w' : World => w'.cell? ⟨b, 0, none⟩ = some (.int .i64 n) ∧ w'.cell? ⟨b, 1, none⟩ = some (.int .i64 ((k : Int) + 1))) (first | assumption | exact hS _) (fail)
            go_wp2_with fail
            go_ret
            exact ⟨rfl, (FIN.out false HD.out).1, (FIN.out false HD.out).2⟩
        · have hn' : n ≤ 0 := by omega
          have HD := Lib.hid (show false = decide (0 < n ∧ n ≤ (k : Int) + 1) by simp [hn])
          have hdn : decide (0 < n) = false := by simpa using hn'
          clear hn
          have hlS : ∀ wl : World, (fun w' : World => w'.cell? ⟨b, 0, none⟩ = some (.int .i64 n) ∧ w'.cell? ⟨b, 1, none⟩ = some (.int .i64 ((k : Int) + 1))) wl → wl.cell? ⟨b, 0, none⟩ = some (.int .i64 n) ∧ wl.cell? ⟨b, 1, none⟩ = some (.int .i64 ((k : Int) + 1)) ∧ True ∧ True := fun wl h => ⟨h.1, h.2, trivial, trivial⟩
          have hS := S0
          refine wp_cut [18, 19, 20, 21, 22, 23, 24, 25, 26, 27, 28, 29, 30, 31, 32, 33, 34, 35, 36] (fun w8 => FzAt w8 (some b) (ticks (some ⟨n, k, false⟩)).2 ∧ Chg (Fb (some b)) w w8 ∧ w8.heap.size = w.heap.size) ?_ ?_
          · refine wp_region_U (fun w' : World => w'.cell? ⟨b, 0, none⟩ = some (.int .i64 n) ∧ w'.cell? ⟨b, 1, none⟩ = some (.int .i64 ((k : Int) + 1))) 19 (by kernel_rfl) ?_
            refine wpU_pure (i := 0) (v := ?_) rfl (by kernel_rfl) (by kernel_rfl) (by kernel_rfl) (by decide) (fun _ _ _ h => h) (fun _ => hS) (Or.inl ⟨by rfl, fun _ _ => ?_⟩) ?_
            rotate_left
            · go_simp
              try with_reducible rfl
            try simp only [Act.put]
            refine wpU_pure (i := 1) (v := ?_) rfl (by kernel_rfl) (by kernel_rfl) (by kernel_rfl) (by decide) (fun _ _ _ h => h) (fun _ => hS) (Or.inl ⟨by rfl, fun _ _ => ?_⟩) ?_
            rotate_left
            · go_simp
              try with_reducible rfl
            try simp only [Act.put]
            refine wpU_pure (i := 2) (v := ?_) rfl (by kernel_rfl) (by kernel_rfl) (by kernel_rfl) (by decide) (fun _ _ _ h => h) (fun _ => hS) (Or.inl ⟨by rfl, fun _ _ => ?_⟩) ?_
            rotate_left
            · go_simp
              try with_reducible rfl
            try simp only [Act.put]
            refine wpU_pure (i := 3) (v := ?_) rfl (by kernel_rfl) (by kernel_rfl) (by kernel_rfl) (by decide) (fun _ _ _ h => h) (fun _ => hS) (Or.inl ⟨by rfl, fun _ _ => ?_⟩) ?_
            rotate_left
            · go_simp
              try with_reducible rfl
            try simp only [Act.put]
            refine wpU_load (i := 4) (v := ?_) rfl (by kernel_rfl) (by kernel_rfl) (by kernel_rfl) (by decide) (by kernel_rfl) (by kernel_rfl) (fun _ _ _ h => h) hS (Or.inl ⟨by rfl, fun wl hl => ?_⟩) ?_
            rotate_left
            · have hl2 := hlS wl hl
              obtain ⟨l1, l2, l3, l4⟩ := hl2
              go_simp
              try with_reducible rfl
            try simp only [Act.put]
            refine wpU_pure (i := 5) (v := ?_) rfl (by kernel_rfl) (by kernel_rfl) (by kernel_rfl) (by decide) (fun _ _ _ h => h) (fun _ => hS) (Or.inl ⟨by rfl, fun _ _ => ?_⟩) ?_
            rotate_left
            · go_simp
              try with_reducible rfl
            try simp only [Act.put]
            refine wpU_pure (i := 6) (v := ?_) rfl (by kernel_rfl) (by kernel_rfl) (by kernel_rfl) (by decide) (fun _ _ _ h => h) (fun _ => hS) (Or.inl ⟨by rfl, fun _ _ => ?_⟩) ?_
            rotate_left
            · go_simp
              try with_reducible rfl
            try simp only [Act.put]
            refine wpU_pure (i := 7) (v := undef) rfl (by kernel_rfl) (by kernel_rfl) (by kernel_rfl) (by decide) (fun _ _ _ h => h) (fun _ => hS) (Or.inr ⟨by kernel_rfl, rfl⟩) ?_
            try simp only [Act.put]
            refine wpU_pure (i := 8) (v := undef) rfl (by kernel_rfl) (by kernel_rfl) (by kernel_rfl) (by decide) (fun _ _ _ h => h) (fun _ => hS) (Or.inr ⟨by kernel_rfl, rfl⟩) ?_
            try simp only [Act.put]
            refine wpU_pure (i := 9) (v := undef) rfl (by kernel_rfl) (by kernel_rfl) (by kernel_rfl) (by decide) (fun _ _ _ h => h) (fun _ => hS) (Or.inr ⟨by kernel_rfl, rfl⟩) ?_
            try simp only [Act.put]
            refine wpU_pure (i := 10) (v := undef) rfl (by kernel_rfl) (by kernel_rfl) (by kernel_rfl) (by decide) (fun _ _ _ h => h) (fun _ => hS) (Or.inr ⟨by kernel_rfl, rfl⟩) ?_
            try simp only [Act.put]
            refine wpU_pure (i := 11) (v := undef) rfl (by kernel_rfl) (by kernel_rfl) (by kernel_rfl) (by decide) (fun _ _ _ h => h) (fun _ => hS) (Or.inr ⟨by kernel_rfl, rfl⟩) ?_
            try simp only [Act.put]
            refine wpU_pure (i := 12) (v := undef) rfl (by kernel_rfl) (by kernel_rfl) (by kernel_rfl) (by decide) (fun _ _ _ h => h) (fun _ => hS) (Or.inr ⟨by kernel_rfl, rfl⟩) ?_
            try simp only [Act.put]
            refine wpU_pure (i := 13) (v := undef) rfl (by kernel_rfl) (by kernel_rfl) (by kernel_rfl) (by decide) (fun _ _ _ h => h) (fun _ => hS) (Or.inr ⟨by kernel_rfl, rfl⟩) ?_
            try simp only [Act.put]
            refine wpU_pure (i := 14) (v := undef) rfl (by kernel_rfl) (by kernel_rfl) (by kernel_rfl) (by decide) (fun _ _ _ h => h) (fun _ => hS) (Or.inr ⟨by kernel_rfl, rfl⟩) ?_
            try simp only [Act.put]
            refine wpU_pure (i := 15) (v := undef) rfl (by kernel_rfl) (by kernel_rfl) (by kernel_rfl) (by decide) (fun _ _ _ h => h) (fun _ => hS) (Or.inr ⟨by kernel_rfl, rfl⟩) ?_
            try simp only [Act.put]
            refine wpU_pure (i := 16) (v := ?_) rfl (by kernel_rfl) (by kernel_rfl) (by kernel_rfl) (by decide) (fun _ _ _ h => h) (fun _ => hS) (Or.inl ⟨by rfl, fun _ _ => ?_⟩) ?_
            rotate_left
            · go_simp
              try with_reducible rfl
            try simp only [Act.put]
            refine wpU_pure (i := 17) (v := ?_) rfl (by kernel_rfl) (by kernel_rfl) (by kernel_rfl) (by decide) (fun _ _ _ h => h) (fun _ => hS) (Or.inl ⟨by rfl, fun _ _ => ?_⟩) ?_
            rotate_left
            · go_simp
              try with_reducible rfl
            try simp only [Act.put]
            refine wpU_pure (i := 18) (v := ?_) rfl (by kernel_rfl) (by kernel_rfl) (by kernel_rfl) (by decide) (fun _ _ _ h => h) (fun _ => hS) (Or.inl ⟨by rfl, fun _ _ => ?_⟩) ?_
            rotate_left
            · go_simp
              try with_reducible rfl
            try simp only [Act.put]
            refine wpU_all [19] (by kernel_rfl) (by simp) ?_
            refine ReadyU.cons rfl (fun K hK => ?_) (ReadyU.nil)
            go_simp
            refine hK.out _ _ (fun h => Bool.noConfusion (show true = false from h)) ?_
            clear hK K
            refine wpU_done (by kernel_rfl) ?_ _
            exact cut_end (FIN.out false HD.out) (by kernel_rfl)
          · intro us w4 h4
            have H4 := Lib.hid h4
            clear h4 c0 c1 c2 u2 S0 hS hlS
            simp only [setAll, List.foldl_cons, List.foldl_nil, List.set_cons_zero, List.set_cons_succ]
            go_wp2_with fail
            go_ret
            exact ⟨rfl, H4.out⟩
end Go.Proofs.Ytnphkddhckcpmaa
