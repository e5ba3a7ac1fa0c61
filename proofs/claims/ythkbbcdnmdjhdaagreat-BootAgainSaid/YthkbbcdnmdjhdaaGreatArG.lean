/-
  A pair of arrays in memory: its cells, its disks; Ints; awake of strongboxlaw12.
-/
import Derived.Test.YthkbbcdnmdjhdaaGreatArF
/-! XArG: A pair of arrays in memory: its cells, its disks; Ints; awake of strongboxlaw12. -/
namespace Go.Proofs.YthkbbcdnmdjhdaaGreat
open Go.RowKit Dk
set_option maxRecDepth 100000
set_option maxHeartbeats 4000000
attribute [local go_sem] min_int2 max_int2 bstr_toList

/-- What a pair has besides the array's own memory. -/
def restP (P : PA) (t : AS) (Y : Thing) : Thing :=
  (rowT P.pb 36 #[.pointer (some ⟨P.A.ab, 0, none⟩), P.dv, .pointer (some ⟨P.f, 0, none⟩), .pointer (some ⟨P.V.ab, 0, none⟩), .pointer (some ⟨P.g, 0, none⟩)]).star
    ((ownT 42 P.dv (P.A.ss.map sval)).star ((rarrT P.V).star ((rfuseT (some P.g) t.z).star ((refsT (some P.g) P.V.ss t.ds).star Y))))
theorem memP_in {P : PA} {s t : AS} {Y : Thing} : (memP P s t Y).Ent (memA P.A (some P.f) s (restP P t Y)) := (Thing.Ent.star (.refl _) memA_in).trans memA_in
theorem memP_out {P : PA} {s t : AS} {Y : Thing} : (memA P.A (some P.f) s (restP P t Y)).Ent (memP P s t Y) := memA_out.trans (.star (.refl _) memA_out)
section
variable {w0 w w' : World} {P : PA} {s t : AS} {Y : Thing} {i sa n : Nat}
theorem memP.row (h : Lab w0 w (memP P s t Y)) : Row w P.pb 36 #[.pointer (some ⟨P.A.ab, 0, none⟩), .slice (some ⟨P.db, 0, none⟩) P.A.ss.length P.dc, .pointer (some ⟨P.f, 0, none⟩), .pointer (some ⟨P.V.ab, 0, none⟩), .pointer (some ⟨P.g, 0, none⟩)] := rowT.row h.left
theorem memP.cells (h : Lab w0 w (memP P s t Y)) : w.cell? ⟨P.pb, 0, none⟩ = some (.pointer (some ⟨P.A.ab, 0, none⟩)) ∧ w.cell? ⟨P.pb, 1, none⟩ = some (.slice (some ⟨P.db, 0, none⟩) P.A.ss.length P.dc) ∧ w.cell? ⟨P.pb, 2, none⟩ = some (.pointer (some ⟨P.f, 0, none⟩)) ∧ w.cell? ⟨P.pb, 3, none⟩ = some (.pointer (some ⟨P.V.ab, 0, none⟩)) ∧ w.cell? ⟨P.pb, 4, none⟩ = some (.pointer (some ⟨P.g, 0, none⟩)) :=
  ⟨(memP.row h).cell rfl, (memP.row h).cell rfl, (memP.row h).cell rfl, (memP.row h).cell rfl, (memP.row h).cell rfl⟩
theorem memP.sim (h : Lab w0 w (memP P s t Y)) (hs : P.A.ss[i]? = some sa) : w.cell? ⟨P.db, i, none⟩ = some (.pointer (some ⟨sa, 0, none⟩)) := by
  have ho := ownT.own h.right.left
  obtain ⟨p, q, e, -, -, hc⟩ := ho.cells
  have hx : (P.A.ss.map sval)[i]? = some (sval sa) := by rw [List.getElem?_map, hs]; rfl
  obtain ⟨ad, e1, h1⟩ := hc i _ hx
  have e2 : P.dv = .slice (some ⟨P.db, 0, none⟩) P.A.ss.length P.dc := rfl
  rw [e2] at e
  simp only [Value.slice.injEq] at e
  rw [← e.1] at e1
  cases e1
  rw [Addr.add_lit, Nat.zero_add] at h1
  exact h1
theorem memP.arr (h : Lab w0 w (memP P s t Y)) : Lab w0 w (arrT P.A) := h.right.right.left
end
theorem blanks_snd (n : Nat) (most : Int) (hn : n ≤ 255) : ASnd (blanks n most) 0 :=
  ⟨fun d hd => by rw [List.eq_of_mem_replicate hd]; exact Snd.new most, Nat.le_refl _, by unfold blanks; simp; exact hn⟩
theorem ints_any (v u : Value) (a b : List Int) (d : Bool) (hd : (a == b) = d) (ha : a.length ≤ 100000) (hb : b.length ≤ 100000) (w : World) (hV : Ints w v a) (hU : Ints w u b) :
    Calls Tryz.prog 35 #[v, u] w fun e w' => e = .returned (.bool d) ∧ Ext w w' := by
  obtain ⟨va, vc, rfl, -, -, -⟩ := id hV
  obtain ⟨ua, uc, rfl, -, -, -⟩ := id hU
  rw [List.length_map] at hV hU ⊢
  rw [List.length_map]
  obtain ⟨n, hn⟩ : ∃ n, a.length = n := ⟨_, rfl⟩
  obtain ⟨m, hm⟩ : ∃ m, b.length = m := ⟨_, rfl⟩
  rw [hn] at hV ha ⊢
  rw [hm] at hU hb ⊢
  have HV := Lib.hid hV
  have HU := Lib.hid hU
  have HN := Lib.hid (And.intro hn hm)
  have HD := Lib.hid hd
  clear hV hU hn hm hd
  by_cases hnm : n = m
  case neg =>
    have q1 : ((n : Int) != (m : Int)) = true := (bne_len _ _).trans (decide_eq_true hnm)
    have hdf : d = false := by
      rw [← HD.out]
      refine beq_eq_false_iff_ne.2 fun e => hnm ?_
      rw [← HN.out.1, ← HN.out.2, e]
    subst hdf
    clear hnm
    go_enter Tryz.func35, Tryz.ntmps35
    go_wp2_with fail
    go_ret
    exact ⟨rfl, Ext.refl _⟩
  subst hnm
  have q1 : ((n : Int) != (n : Int)) = false := by simp
  go_enter Tryz.func35, Tryz.ntmps35
  go_wp2_with fail
  go_loopw [5] (fun v5 wr => ∃ i : Nat, i ≤ n ∧ v5 = .int .i64 (i : Nat) ∧ Hid ((∀ j, j < i → a[j]? = b[j]?) ∧ Ext w wr)) (fun v5 _ => (n - intOf v5).toNat)
  case atStart => exact ⟨0, by omega, rfl, Lib.hid ⟨fun j h => by omega, Ext.refl _⟩⟩
  case round =>
    obtain ⟨i, hi, rfl, hR⟩ := hrel
    by_cases hlt : i < n
    · have hlt' : (i : Int) < (n : Int) := by omega
      obtain ⟨x, hx⟩ : ∃ x, a[i]? = some x := ⟨_, List.getElem?_eq_getElem (by rw [HN.out.1]; exact hlt)⟩
      obtain ⟨y, hy⟩ : ∃ y, b[i]? = some y := ⟨_, List.getElem?_eq_getElem (by rw [HN.out.2]; exact hlt)⟩
      obtain ⟨b1, o1, rfl, c1⟩ := (HV.out.ext hR.out.2).at (show (ivs a)[i]? = some (.int .i64 x) by rw [List.getElem?_map, hx]; rfl)
      obtain ⟨b2, o2, rfl, c2⟩ := (HU.out.ext hR.out.2).at (show (ivs b)[i]? = some (.int .i64 y) by rw [List.getElem?_map, hy]; rfl)
      have HXY := Lib.hid (And.intro hx hy)
      clear hx hy
      by_cases hxy : x = y
      · have q2 : (x != y) = false := by simp [hxy]
        have HE := Lib.hid hxy
        clear hxy
        go_wp2_with fail
        go_quiet (fail)
        have HNN := Lib.hid (show (∀ j, j < i + 1 → a[j]? = b[j]?) ∧ Ext w (wr.drewN nq) from ⟨fun j hj => by
          by_cases e : j = i
          · subst e; rw [HXY.out.1, HXY.out.2, HE.out]
          · exact hR.out.1 j (by omega), Ext.trans hR.out.2 (Ext.of_drawn _ _)⟩)
        generalize wr.drewN nq = wt at HNN ⊢
        go_wp2_with fail
        exact ⟨⟨i + 1, by omega, by go_num, HNN⟩, by simp [intOf]; omega⟩
      · have q2 : (x != y) = true := by simp [hxy]
        have hdf : d = false := by
          rw [← HD.out]
          refine beq_eq_false_iff_ne.2 fun e => hxy ?_
          have h1 := HXY.out.1
          rw [e, HXY.out.2] at h1
          exact (Option.some.inj h1).symm
        subst hdf
        clear hxy
        go_wp2_with fail
        go_quiet (fail)
        have x8 := Lib.hid (Ext.trans hR.out.2 (Ext.of_drawn wr nq))
        generalize wr.drewN nq = wt at x8 ⊢
        go_wp2_with fail
        go_ret
        exact ⟨rfl, x8.out⟩
    · have hdt : d = true := by
        rw [← HD.out]
        refine beq_iff_eq.2 (List.ext_getElem? fun j => ?_)
        by_cases hj : j < n
        · exact hR.out.1 j (by omega)
        · rw [List.getElem?_eq_none (by rw [HN.out.1]; omega), List.getElem?_eq_none (by rw [HN.out.2]; omega)]
      subst hdt
      have x8 := Lib.hid hR.out.2
      clear hR
      go_wp2_with fail
      go_ret
      exact ⟨rfl, x8.out⟩
end Go.Proofs.YthkbbcdnmdjhdaaGreat
