/-
  New; begin.
-/
import Derived.Test.YtnphkddhckcpmaaDkB
namespace Go.Proofs.Ytnphkddhckcpmaa
open Go.RowKit Dk
set_option maxRecDepth 100000
set_option maxHeartbeats 4000000
attribute [local go_sem] min_int2 max_int2 bstr_toList

/-- A slice of strings of the code's own. -/
def pvs (ps : List Path) : List Value := ps.map fun p => .string (bstr p)
def Strs (w : World) (v : Value) (ps : List Path) : Prop := Own w 0 9 v (pvs ps)
theorem pvs_len (ps : List Path) : (pvs ps).length = ps.length := List.length_map _
theorem Own.slice' {w : World} {B : Nat} {e : TypeId} {v : Value} {cs : List Value} (h : Own w B e v cs) : ∃ a c, v = .slice a cs.length c := by
  obtain ⟨a, c, e, -⟩ := h.cells
  exact ⟨a, c, e⟩
theorem Strs.form {w : World} {v : Value} {ps : List Path} (h : Strs w v ps) : ∃ a c, v = .slice a ps.length c := by
  have := Own.slice' h
  rwa [pvs_len] at this
theorem Strs.at {w : World} {a : Option Addr} {n c : Nat} {ps : List Path} (h : Strs w (.slice a n c) ps) {j : Nat} (hj : j < ps.length) : ∃ b o, a = some ⟨b, o, none⟩ ∧ w.cell? ⟨b, o + j, none⟩ = some (.string (bstr ps[j])) :=
  (Own.cells h).at (j := j) (by simp [pvs, hj])
theorem Strs.chg {S : Nat → Prop} {w w' : World} {v : Value} {ps : List Path} (h : Strs w v ps) (k : Chg S w w') (hn : ∀ b, v.ownBlock = some b → ¬ S b) : Strs w' v ps := Own.chg h k hn
theorem ty_str_fuse : 9 ≠ 74 := by decide
theorem ty_str_sim : 9 ≠ 77 := by decide
theorem Strs.fz {w : World} {v : Value} {ps : List Path} {fp : Option Nat} {z : Option FS} (h : Strs w v ps) (hz : FzAt w fp z) : ∀ b, v.ownBlock = some b → fp ≠ some b := fun b hb e => by
  subst e
  cases z with
  | none => exact hz
  | some z => exact Own.ne h hz.1 ty_str_fuse hb
theorem begin_any (s m : Nat) (fp : Option Nat) (z : Option FS) (es : L Ent) (d : DS) (ps : List Path) (v : Value) (w : World) (h : Raw w s fp m es d) (hz : FzAt w fp z) (hzo : zops z < 1099511627776)
    (hps : ps.length ≤ 100000) (hpl : ∀ p ∈ ps, p.length ≤ maxLen) (hv : Strs w v ps) :
    Calls Try.prog 37 #[.pointer (some ⟨s, 0, none⟩), v] w fun e w' => e = .returned (.int .i64 ((begins z d ps).1 : Nat)) ∧ FzAt w' fp (begins z d ps).2.1 ∧ Raw w' s fp m es (begins z d ps).2.2 ∧ Chg (fun b => b = s ∨ fp = some b) w w' ∧ w'.heap.size = w.heap.size := by
  obtain ⟨va, vc, rfl⟩ := hv.form
  have H := Lib.hid h
  have HZ := Lib.hid hz
  have HV := Lib.hid hv
  have c1 := h.row.cell (i := 1) (v := fptr fp) rfl
  have HPL := Lib.hid hpl
  clear h hz hv hpl
  go_enter Try.func37, Try.ntmps37
  go_wp2_with fail
  refine (tick_any fp z _ HZ.out hzo).mono ?_; rintro e w1 ⟨rfl, hz1, hg1, hsz⟩
  have H1 := Lib.hid (H.out.chg hg1 (fun b hb => H.out.fuse HZ.out b hb))
  have HG1 := Lib.hid (And.intro (hg1.mono (T := fun b => b = s ∨ fp = some b) fun b _ hb => .inr hb) hsz)
  have HV1 := Lib.hid (HV.out.chg hg1 (HV.out.fz HZ.out))
  have HZ1 := Lib.hid hz1
  clear hz1 hg1 hsz c1
  obtain ⟨t, ht⟩ : ∃ t, (ticks z).1 = t := ⟨_, rfl⟩
  rw [ht]
  have HT := Lib.hid ht
  clear ht
  cases t with
  | false =>
    have HR := Lib.hid (show begins z d ps = (20, (ticks z).2, d) by unfold begins; rw [HT.out, if_pos rfl])
    go_wp2_with fail
    go_ret
    rw [HR.out]
    exact ⟨rfl, HZ1.out, H1.out, HG1.out.1, HG1.out.2⟩
  | true =>
    have c3 := H1.out.row.cell (i := 3) (v := .bool d.off) rfl
    obtain ⟨dm, dof, dbad, dfs⟩ := d
    cases dof with
    | true =>
      have HR := Lib.hid (show begins z ⟨dm, true, dbad, dfs⟩ ps = (10, (ticks z).2, ⟨dm, true, dbad, dfs⟩) by unfold begins; rw [HT.out, if_neg (by simp), if_pos rfl])
      go_wp2_with fail
      go_ret
      rw [HR.out]
      exact ⟨rfl, HZ1.out, H1.out, HG1.out.1, HG1.out.2⟩
    | false =>
      have c4 := H1.out.row.cell (i := 4) (v := .int .i64 dbad) rfl
      have hbd : dbad ≤ 9223372036854775807 := H1.out.nb
      by_cases hb : 0 < dbad
      · have HR := Lib.hid (show begins z ⟨dm, false, dbad, dfs⟩ ps = (9, (ticks z).2, ⟨dm, false, dbad - 1, dfs⟩) by unfold begins; rw [HT.out, if_neg (by simp), if_neg (by simp), if_pos hb])
        have u4 := H1.out.row.unfrozen 4
        have hb' : (0 : Int) < (dbad : Int) := by omega
        have r2 := H1.out.row.set 4 (.int .i64 ((dbad : Int) - 1))
        have e2 : ((dbad : Int) - 1) = ((dbad - 1 : Nat) : Int) := by omega
        have h2 := H1.out.own (d' := ⟨dm, false, dbad - 1, dfs⟩) 4 (.int .i64 ((dbad : Int) - 1)) (by rw [e2] at r2 ⊢; simpa using r2) rfl (by show dbad - 1 ≤ _; omega) H1.out.nm
        have z2 := HZ1.out.chg (S := fun b => b = s) ((Chg.refl (fun b => b = s) w1).at s 4 (.inl rfl) (.int .i64 ((dbad : Int) - 1))) (fun b hb e => H1.out.fuse HZ1.out s (.inl rfl) (by rw [hb, e]))
        have FIN := Lib.hid (And.intro z2 (And.intro h2 (And.intro (HG1.out.1.at s 4 (.inl (.inl rfl)) (.int .i64 ((dbad : Int) - 1))) (show (w1.setCell ⟨s, 4, none⟩ (.int .i64 ((dbad : Int) - 1))).heap.size = w.heap.size by rw [setCell_size]; exact HG1.out.2))))
        clear r2 h2 z2 e2
        go_wp2_with fail
        go_ret
        rw [HR.out]
        exact ⟨rfl, FIN.out⟩
      · have hb' : (dbad : Int) ≤ 0 := by omega
        have HB := Lib.hid hb
        clear hb
        go_wp2_with fail
        clear c3 c4
        go_loop [37] (fun v37 => ∃ j : Nat, j ≤ ps.length ∧ v37 = .int .i64 (j : Nat) ∧ Hid (∀ i, i < j → ∀ p, ps[i]? = some p → okP p = true)) (fun v37 => (ps.length - intOf v37).toNat)
        case atStart => exact ⟨0, by omega, rfl, Lib.hid fun i hi => by omega⟩
        case round =>
          obtain ⟨j, hj, rfl, hJ⟩ := hrel
          by_cases hlt : j < ps.length
          · have hlt' : (j : Int) < (ps.length : Int) := by omega
            obtain ⟨b, o, rfl, c5⟩ := HV1.out.at hlt
            have hpm : ps[j] ∈ ps := List.getElem_mem hlt
            have hpe : ps[j]? = some ps[j] := List.getElem?_eq_getElem hlt
            have hlen := HPL.out ps[j] hpm
            unfold maxLen at hlen
            obtain ⟨p, hp⟩ : ∃ p, ps[j] = p := ⟨_, rfl⟩
            rw [hp] at c5 hpm hpe hlen
            have HP := Lib.hid (And.intro hpm hpe)
            clear hpm hpe hp
            have hbs : (bstr p).size = p.length := rfl
            by_cases hok : 1 ≤ p.length ∧ p.length ≤ 600
            · have q1 : p.isEmpty = false := by cases p; simp at hok; rfl
              have q3 : (p.length : Int) ≤ 600 := by omega
              have HO := Lib.hid hok
              clear hok
              go_wp2_with fail
              exact ⟨⟨j + 1, by omega, by go_num, Lib.hid fun i hi p' hp' => by
                by_cases e : i = j
                · subst e
                  rw [HP.out.2] at hp'
                  cases hp'
                  unfold okP; exact decide_eq_true HO.out
                · exact hJ.out i (by omega) p' hp'⟩, by simp [intOf]; omega⟩
            · have HR := Lib.hid (show begins z ⟨dm, false, dbad, dfs⟩ ps = (1, (ticks z).2, ⟨dm, false, dbad, dfs⟩) by
                have : ps.all okP = false := by
                  refine List.all_eq_false.2 ⟨p, HP.out.1, ?_⟩
                  unfold okP
                  simpa using hok
                unfold begins; rw [HT.out, if_neg (by simp), if_neg (by simp), if_neg HB.out, this, if_neg (by simp)])
              by_cases h0 : p = []
              · have q1 : p.isEmpty = true := by rw [h0]; rfl
                clear hok h0
                go_wp2_with fail
                go_ret
                rw [HR.out]
                exact ⟨rfl, HZ1.out, H1.out, HG1.out.1, HG1.out.2⟩
              · have q1 : p.isEmpty = false := by cases p; exact absurd rfl h0; rfl
                have hl1 : 1 ≤ p.length := by cases p; exact absurd rfl h0; simp
                have q3 : (600 : Int) < (p.length : Int) := by omega
                clear hok h0
                go_wp2_with fail
                go_ret
                rw [HR.out]
                exact ⟨rfl, HZ1.out, H1.out, HG1.out.1, HG1.out.2⟩
          · have HR := Lib.hid (show begins z ⟨dm, false, dbad, dfs⟩ ps = (0, (ticks z).2, ⟨dm, false, dbad, dfs⟩) by
              have : ps.all okP = true := List.all_eq_true.2 fun p hp => by
                obtain ⟨i, hi⟩ := List.getElem?_of_mem hp
                exact hJ.out i (by have := (List.getElem?_eq_some_iff.1 hi).1; omega) p hi
              unfold begins; rw [HT.out, if_neg (by simp), if_neg (by simp), if_neg HB.out, this, if_pos rfl])
            clear hJ
            go_wp2_with fail
            go_ret
            rw [HR.out]
            exact ⟨rfl, HZ1.out, H1.out, HG1.out.1, HG1.out.2⟩
end Go.Proofs.Ytnphkddhckcpmaa
