/-
  A disk's List: all paths that begin so.
-/
import Derived.Test.YtnphkddhckcpmaaDkV
import Derived.Test.YtnphkddhckcpmaaDel
namespace Go.Proofs.Ytnphkddhckcpmaa
open Go.RowKit Dk Go.WideShapes Go.Sort Go.Shelf
set_option maxRecDepth 100000
set_option maxHeartbeats 4000000
attribute [local go_sem] min_int2 max_int2 bstr_toList

theorem nprefix_any (p q : Path) (w : World) : Calls Try.prog 44 #[.string (bstr p), .string (bstr q)] w fun e w' => e = .returned (.bool (q.isPrefixOf p)) ∧ w' = w := by
  have h := Any.strings_HasPrefix Try.hpL (bstr p) (bstr q)
  have eb : ∀ p : Path, (bstr p).data.toList = p := fun p => by unfold bstr; simp
  rw [eb, eb] at h
  go_enter Try.func44, Try.ntmps44
  go_wp2_with fail
  refine (h _).mono ?_; rintro e w' ⟨rfl, hw⟩; subst hw
  go_wp2_with fail
  go_ret
  exact ⟨rfl, rfl⟩
theorem closure_any (x p : Path) (b : Nat) (w : World) (hc : w.cell? ⟨b, 0, none⟩ = some (.string (bstr p))) :
    Calls Try.prog 43 #[.string (bstr x), .pointer (some ⟨b, 0, none⟩)] w fun e w' => e = .returned (.bool (!p.isPrefixOf x)) ∧ ∃ q, w' = w.drewN q := by
  go_enter Try.func43, Try.ntmps43
  go_wp2_with fail
  refine (nprefix_any x p _).mono ?_; rintro e w' ⟨rfl, hw⟩; subst hw
  go_wp2_with fail
  go_ret
  exact ⟨rfl, 0, rfl⟩
theorem row_put {w : World} {g : Nat} {cur : Array Value} (hr : Row w g 9 cur) (q : Nat) (d : Array Path) : Row (putRow penc (Sort.ahead w q) g 0 d) g 9 (putCells penc 0 d cur) := by
  have hlt := hr.lt
  unfold Row at hr ⊢
  show (w.heap.modify g (onCells (putCells penc 0 d)))[g]? = _
  rw [Array.getElem?_modify, if_pos rfl, hr]; rfl
theorem chg_put (w : World) (g q : Nat) (d : Array Path) : Chg (fun b => b = g) w (putRow penc (Sort.ahead w q) g 0 d) := by
  refine ⟨rfl, rfl, rfl, ?_, fun b hb hn => ?_⟩
  · show w.heap.size ≤ (w.heap.modify g (onCells (putCells penc 0 d))).size
    simp
  · have hg : g ≠ b := fun e => hn e.symm
    show (w.heap.modify g (onCells (putCells penc 0 d)))[b]? = _
    rw [Array.getElem?_modify, if_neg hg]
def having (p : Path) (ps : List Path) : List Path := ps.filter fun x => p.isPrefixOf x
theorem having_eq (p : Path) (ps : List Path) : (ps.toArray.toList.filter fun x => !(!p.isPrefixOf x)) = having p ps := by unfold having; simp
theorem delf_any (w : World) (B g c b : Nat) (ps : List Path) (p : Path) (ho : Own w B 9 (.slice (some ⟨g, 0, none⟩) ps.length c) (pvs ps)) (hc : w.cell? ⟨b, 0, none⟩ = some (.string (bstr p))) (hb : b < B) (hl : ps.length ≤ 5000) :
    Calls Try.prog 42 #[.slice (some ⟨g, 0, none⟩) ps.length c, .func (.func 43) #[] #[.pointer (some ⟨b, 0, none⟩)]] w fun e w' =>
      e = .returned (.slice (some ⟨g, 0, none⟩) (having p ps).length c) ∧ Own w' B 9 (.slice (some ⟨g, 0, none⟩) (having p ps).length c) (pvs (having p ps)) ∧ Chg (fun b => b = g) w w' := by
  obtain ⟨-, -, -⟩ := (⟨trivial, trivial, trivial⟩ : True ∧ True ∧ True)
  rcases ho.forms with ⟨h1, -⟩ | ⟨g', cap, cur, h1, hB, hr, hlc, hs, ht, hm⟩
  · cases h1
  simp only [Value.slice.injEq, Option.some.injEq, Addr.mk.injEq] at h1
  obtain ⟨⟨rfl, -, -⟩, -, rfl⟩ := h1
  have hpl : (pvs ps).length = ps.toArray.size := by simp [pvs]
  have hcur : ∀ j, j < ps.length → cur[j]? = some (penc ps[j]!) := fun j hj => by
    have h1 : (List.take (pvs ps).length cur.toList)[j]? = (pvs ps)[j]? := by rw [ht]
    rw [List.getElem?_take, if_pos (by simpa [pvs] using hj), Array.getElem?_toList] at h1
    rw [h1]
    simp [pvs, penc, hj]
  have hH : Holds penc w g 0 ps.toArray := fun j hj => by
    have hj' : j < ps.length := by simpa using hj
    refine ⟨?_, hr.unfrozen _⟩
    have := hr.cell (hcur j hj')
    rw [Nat.zero_add]
    simpa using this
  have hbw : b < w.heap.size := World.block_lt_of_cell? w ⟨b, 0, none⟩ hc
  have hgb : b ≠ g := by omega
  have eg : ∀ args w, (callFunc 43 args).run Try.prog w = .ok (.enter 43 args) w := enters_of Try.func43 (by kernel_rfl) rfl
  have hlc' : ps.length ≤ c := by simpa [pvs] using hlc
  have hD := AnyE.slices_DeleteFunc Try.delL penc (fun _ => rfl) (fun x => !p.isPrefixOf x) 43 #[.pointer (some ⟨b, 0, none⟩)] eg [] Try.zeroValue9 g 0 c ps.toArray w
    (fun W x hW => closure_any x p b W ((hW.cell (p := ⟨b, 0, none⟩) hbw).trans hc))
    (fun n os dk x _ => closure_any x p b _ (by
      unfold sortWorld
      rw [cell?_grow _ _ _ (by show b < (putRow _ _ _ _ _).heap.size; rw [size_putRow]; exact hbw), cell?_putRow_other _ _ g 0 _ _ (Or.inl hgb)]
      exact hc)) hH (by simp; omega) (by simpa using hlc')
  rw [having_eq] at hD
  have hsz : (ps.toArray).size = ps.length := by simp
  rw [hsz] at hD
  refine hD.mono ?_
  rintro e w' ⟨h1, q, rfl⟩
  have hle : (having p ps).length ≤ ps.length := List.length_filter_le _ _
  have hd0 : ∀ j, j < (having p ps).length → ((having p ps) ++ List.replicate (ps.length - (having p ps).length) ([] : Path)).toArray[j]? = (having p ps)[j]? := fun j hj => by
    rw [List.getElem?_toArray, List.getElem?_append_left hj]
  have hd1 : ((having p ps) ++ List.replicate (ps.length - (having p ps).length) ([] : Path)).toArray.size = ps.length := by simp; omega
  obtain ⟨d, hd⟩ : ∃ d, ((having p ps) ++ List.replicate (ps.length - (having p ps).length) ([] : Path)).toArray = d := ⟨_, rfl⟩
  rw [hd] at hd0 hd1 ⊢
  obtain ⟨rs, hrs⟩ : ∃ rs, having p ps = rs := ⟨_, rfl⟩
  rw [hrs] at hd0 hle h1 ⊢
  have hrow := row_put hr q d
  refine ⟨h1, ?_, chg_put w g q _⟩
  have hl2 : (pvs rs).length = rs.length := by simp [pvs]
  have hpl3 : (pvs ps).length = ps.length := by simp [pvs]
  have hO : Own (putRow penc (Sort.ahead w q) g 0 d) B 9 (.slice (some ⟨g, 0, none⟩) (pvs rs).length c) (pvs rs) := by
    refine Own.mk hB hrow (by omega) (by simp [putCells, hs]) ?_ hm
    apply List.ext_getElem?
    intro j
    rw [List.getElem?_take]
    by_cases h : j < (pvs rs).length
    · have c2 : j < rs.length := by omega
      have c3 : j < cur.size := by omega
      have c4 : j < d.size := by omega
      have c5 : d[j]? = rs[j]? := hd0 j c2
      rw [if_pos h, Array.getElem?_toList]
      have e1 : d[j]! = rs[j] := by rw [getElem!_def, c5, List.getElem?_eq_getElem c2]
      simp [putCells, c2, c3, c4, pvs, penc]
      have e2 : d[j] = rs[j] := by rw [← e1, getElem!_pos d j c4]
      rw [e2]
    · rw [if_neg h, List.getElem?_eq_none (by omega)]
  rw [hl2] at hO
  exact hO
namespace Dk
/-- What a list tells. -/
def lists (z : Option FS) (d : DS) (p : Path) : List Path := if (begins z d []).1 = 0 then (paths d.fs).filter (fun x => p.isPrefixOf x) else []
end Dk
def ListOut (s : Nat) (fp : Option Nat) (z : Option FS) (d : DS) (S : Nat → Prop) (p : Path) (w : World) (e : Ending) (w' : World) : Prop :=
  ∃ u, e = .returned (.tuple #[u, .int .i64 ((begins z d []).1 : Nat)]) ∧ Own w' w.heap.size 9 u (pvs (lists z d p)) ∧ FzAt w' fp (begins z d []).2.1 ∧ SimAt w' s fp (begins z d []).2.2 S ∧ Chg (fun b => S b ∨ fp = some b) w w'
theorem list_any (s : Nat) (fp : Option Nat) (z : Option FS) (d : DS) (S : Nat → Prop) (p : Path) (w : World) (h : SimAt w s fp d S) (hz : FzAt w fp z) (hzo : zops z < 1099511627776) (hn : d.fs.length ≤ 4096) :
    Calls Try.prog 26 #[.pointer (some ⟨s, 0, none⟩), .string (bstr p)] w (ListOut s fp z d S p w) := by
  have hSlt := h.lt'
  obtain ⟨m, es, h, hS1, hS2, hS3⟩ := h
  have x0 : Ext w (w.alloc (.cells #[.string (bstr p)] 9)) := (Ext.refl w).alloc (Nat.le_refl _) _
  have hr0 := Row.new w 9 #[.string (bstr p)]
  have h1 := h.chg (Chg.of_ext x0 (fun _ => False)) (fun _ _ h => h)
  have hz1 := hz.chg (Chg.of_ext x0 (fun _ => False)) (fun _ _ h => h)
  have HLT : Hid (∀ b, (S b ∨ fp = some b) → b < w.heap.size) := Lib.hid (fun b hb => hb.elim (hSlt b) fun hb => hz.lt b hb)
  have hb0 := begins_fs z d []
  obtain ⟨w1, hw1⟩ : ∃ w1, w.alloc (.cells #[.string (bstr p)] 9) = w1 := ⟨_, rfl⟩
  have hsz1 : w1.heap.size = w.heap.size + 1 := by rw [← hw1]; simp
  have HW1 := Lib.hid hw1
  rw [hw1] at x0 hr0 h1 hz1
  have H := Lib.hid (And.intro h1 (And.intro hz1 (And.intro hr0 (And.intro x0 hsz1))))
  have HS := Lib.hid (And.intro hS1 (And.intro hS2 hS3))
  have HB0 := Lib.hid hb0
  clear h hz hS1 hS2 hS3 hSlt x0 hr0 h1 hz1 hb0 hsz1 hw1
  go_enter Try.func26, Try.ntmps26
  go_wp2_with fail
  rw [HW1.out]
  refine (begin_any s m fp z es d [] _ _ H.out.1 H.out.2.1 hzo (by simp) (by simp) (Own.nil _ _ _)).mono ?_; rintro e w2 ⟨rfl, hz2, h2, hg2, hsz2⟩
  have HG2 := Lib.hid (hg2.mono (T := fun b => S b ∨ fp = some b) fun b _ hb => by
    rcases hb with rfl | hb
    · exact .inl (HS.out.1 _ (.inl rfl))
    · exact .inr hb)
  have HZ2 := Lib.hid hz2
  have H2 := Lib.hid (And.intro h2 (show SimAt w2 s fp (begins z d []).2.2 S from ⟨m, es, h2, HS.out.1, fun b hb => Nat.lt_of_lt_of_le (HS.out.2.1 b hb) (Nat.le_trans H.out.2.2.2.1.size hg2.size), HS.out.2.2⟩))
  have HR2 := Lib.hid (H.out.2.2.1.chg HG2.out (fun hx => Nat.lt_irrefl _ (HLT.out _ hx)))
  have HG := Lib.hid ((Chg.of_ext H.out.2.2.2.1 (fun b => S b ∨ fp = some b)).trans HG2.out)
  clear hz2 h2 hg2 hsz2
  obtain ⟨n, hnn⟩ : ∃ n, (begins z d []).1 = n := ⟨_, rfl⟩
  rw [hnn]
  by_cases h0 : n = 0
  case neg =>
    have q1 : ((n : Int) != 0) = true := by simp; omega
    have HW : Hid (lists z d p = []) := Lib.hid (by unfold lists; rw [hnn, if_neg h0])
    have HB := Lib.hid (show Own w2 w.heap.size 9 (.slice none 0 0) (pvs (lists z d p)) by rw [HW.out]; exact Own.nil _ _ _)
    have HN := Lib.hid hnn
    clear h0 hnn
    go_wp2_with fail
    go_ret2
    exact ⟨_, by rw [HN.out]; rfl, HB.out, HZ2.out, H2.out.2, HG.out⟩
  subst h0
  have q1 : (((0 : Nat) : Int) != 0) = false := rfl
  have HW : Hid (lists z d p = having p (paths d.fs)) := Lib.hid (by unfold lists; rw [hnn, if_pos rfl]; rfl)
  have HN := Lib.hid hnn
  clear hnn
  go_wp2_with fail
  refine (files_some sort_ok s m fp es _ _ H2.out.1 (by rw [HB0.out]; exact hn)).mono ?_; rintro e w3 ⟨v, rfl, ⟨a, c, hv⟩, ho, x3⟩
  rw [HB0.out] at ho hv
  have hplen : d.fs.length = (paths d.fs).length := by simp [paths]
  rw [hplen] at hv
  obtain ⟨g, hg⟩ : ∃ g, a = ⟨g, 0, none⟩ := by
    rcases ho.forms with ⟨h1, -⟩ | ⟨g', cap, cur, h1, -⟩
    · rw [hv] at h1; cases h1
    · rw [hv] at h1; simp only [Value.slice.injEq, Option.some.injEq] at h1; exact ⟨g', h1.1⟩
  subst hg
  subst hv
  have hgB := ho.block g rfl
  have F3 := Lib.hid (And.intro (HR2.out.chg (Chg.of_ext x3 (fun _ => False)) (fun h => h)) (And.intro (HZ2.out.chg (Chg.of_ext x3 (fun _ => False)) (fun _ _ h => h)) (And.intro (H2.out.2.ext x3) (And.intro (HG.out.trans (Chg.of_ext x3 _)) (And.intro ho (And.intro hgB (And.intro HG2.out.size x3.size)))))))
  obtain ⟨ps, hps⟩ : ∃ ps, paths d.fs = ps := ⟨_, rfl⟩
  have hpl : ps.length ≤ 4096 := by rw [← hps]; omega
  rw [hps] at F3 HW ⊢
  clear ho x3 hplen hgB hps hn
  go_wp2_with fail
  refine (delf_any w3 w2.heap.size g c w.heap.size ps p F3.out.2.2.2.2.1 (F3.out.1.cell (i := 0) rfl) (by have := F3.out.2.2.2.2.2.2.1; have := H.out.2.2.2.2; omega) (by omega)).mono ?_; rintro e w4 ⟨rfl, ho, hg4⟩
  have hgw : w.heap.size ≤ g := by have := F3.out.2.2.2.2.2.1; have := F3.out.2.2.2.2.2.2.1; have := H.out.2.2.2.2; omega
  have hng : ∀ b, (S b ∨ fp = some b) → ¬ b = g := fun b hb e => by have := HLT.out b hb; omega
  have F4 := Lib.hid (And.intro (show Own w4 w.heap.size 9 (.slice (some ⟨g, 0, none⟩) (having p ps).length c) (pvs (lists z d p)) by rw [HW.out]; exact ho.mono (by have := F3.out.2.2.2.2.2.2.1; have := H.out.2.2.2.2; omega)) (And.intro (F3.out.2.1.chg hg4 (fun b hb => hng b (.inr hb))) (And.intro (F3.out.2.2.1.chg hg4 (fun b hb => hng b (.inl hb))) (show Chg (fun b => S b ∨ fp = some b) w w4 from F3.out.2.2.2.1.then (hg4.mono fun b hb e => by subst e; exact .inr ⟨hgw, hb⟩)))))
  clear ho hg4 hng hgw
  go_wp2_with fail
  go_ret2
  exact ⟨_, by rw [HN.out]; rfl, F4.out.1, F4.out.2.1, F4.out.2.2.1, F4.out.2.2.2⟩
end Go.Proofs.Ytnphkddhckcpmaa
