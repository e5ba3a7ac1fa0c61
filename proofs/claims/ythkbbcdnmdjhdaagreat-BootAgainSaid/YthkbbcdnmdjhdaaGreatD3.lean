/-
  The sort's contract for rows of strings.
  Texts: two rows of the same strings.
  A disk's List: all paths that begin so.
  Disks and fuses as things of their own (Sep).
  DiskLists: the plain law.
-/
import Derived.Test.YthkbbcdnmdjhdaaGreatD2
import Derived.Test.YthkbbcdnmdjhdaaGreatShelf
import Derived.Test.YthkbbcdnmdjhdaaGreatDel
import Derived.Test.YthkbbcdnmdjhdaaGreatD1
/-! XDkU: The sort's contract for rows of strings. -/
namespace Go.Proofs.YthkbbcdnmdjhdaaGreat
open Go.RowKit Dk Go.WideShapes Go.ChangeMaps Go.MapKept Go.Sort Go.Shelf
set_option maxRecDepth 100000
set_option maxHeartbeats 4000000

theorem cmp_before : ∀ a b : Path, decide (Lib.compareBytes a b < 0) = bytesBefore a b
  | [], [] => rfl
  | [], _ :: _ => rfl
  | _ :: _, [] => rfl
  | a :: ra, b :: rb => by
    have ih := cmp_before ra rb
    unfold Lib.compareBytes bytesBefore
    rw [← ih]
    by_cases h1 : a < b
    · simp [h1]
    · by_cases h2 : b < a
      · have h3 : ¬ a = b := fun e => by rw [e] at h2; exact absurd h2 (UInt8.lt_irrefl _)
        simp [h1, h2, h3]
      · have h3 : a = b := UInt8.le_antisymm (UInt8.not_lt.1 h2) (UInt8.not_lt.1 h1)
        simp [h3]
def penc (p : Path) : Value := .string (bstr p)
theorem lt_cmp : ltOf Lib.compareBytes = bytesBefore := by
  funext a b; exact cmp_before a b
theorem swo_path : SWO (ltOf Lib.compareBytes) := by
  rw [lt_cmp]
  refine ⟨WideAt.bytes_irrefl, fun x y z h1 h2 => WideShapes.bytes_trans _ _ _ h1 h2, fun x y z h1 h2 => ?_⟩
  cases h3 : bytesBefore x z with
  | false => rfl
  | true =>
    by_cases e : x = y
    · subst e; rw [h3] at h2; cases h2
    · rcases WideAt.bytes_total x y e with h | h
      · rw [h] at h1; cases h1
      · rw [WideShapes.bytes_trans _ _ _ h h3] at h2; cases h2
theorem tot_path (x y : Path) (h1 : ltOf Lib.compareBytes x y = false) (h2 : ltOf Lib.compareBytes y x = false) : x = y := by
  rw [lt_cmp] at h1 h2
  by_cases e : x = y
  · exact e
  · rcases WideAt.bytes_total x y e with h | h
    · rw [h] at h1; cases h1
    · rw [h] at h2; cases h2
theorem cmp_reads (blk off size : Nat) (w : World) : CmpReads Tryz.prog 87 #[] penc Lib.compareBytes blk off size w := fun m os dk _ x y => by
  have h := Any.strings_Compare Tryz.lays106 (bstr x) (bstr y) (sortWorld penc w blk off m dk os)
  have eb : ∀ p : Path, (bstr p).data.toList = p := fun p => by unfold bstr; simp
  rw [eb, eb] at h
  exact h.mono fun e w' ⟨h1, h2⟩ => ⟨h1, 0, h2⟩
theorem sort_ok : SortOk := by
  intro w B v ps ho hl
  rcases ho.forms with ⟨rfl, hnil⟩ | ⟨g, cap, cur, rfl, hb, hr, hlc, hs, ht, hm⟩
  · have hps : ps = [] := by simpa [pvs] using hnil
    subst hps
    exact (AnyF.slices_SortFunc_none (P := Tryz.prog) (ρ := Tryz.sortL_ren) { Tryz.sortL with } none 0 (.func (.func 87) #[] #[]) w).mono fun e w' ⟨h1, h2⟩ => by
      subst h2
      have e0 : pvs (sortp []) = [] := by simp [sortp, pvs]
      rw [e0]
      exact ⟨h1, Own.nil _ _ _, Chg.refl _ _⟩
  · have hpl : (pvs ps).length = ps.toArray.size := by simp [pvs]
    have hcur : ∀ j, j < ps.length → cur[j]? = some (penc ps[j]!) := fun j hj => by
      have h1 : (List.take (pvs ps).length cur.toList)[j]? = (pvs ps)[j]? := by rw [ht]
      rw [List.getElem?_take, if_pos (by simpa [pvs] using hj), Array.getElem?_toList] at h1
      rw [h1]
      simp [pvs, penc, hj]
    have hH : Holds penc w g 0 ps.toArray := fun j hj => by
      have hj' : j < ps.length := by simpa using hj
      refine ⟨?_, hr.unfrozen _⟩
      have := hr.cell (hcur j hj')
      rw [Nat.zero_add]
      simpa using this
    have hsz : (ps.toArray : Array Path).size < 4611686018427387904 := by simp; omega
    have eg : ∀ args w, (callFunc 87 args).run Tryz.prog w = .ok (.enter 87 args) w := enters_of Tryz.func87 (by kernel_rfl) rfl
    have hS := Any.slices_SortFunc_total Tryz.sortL penc (fun _ => rfl) Lib.compareBytes swo_path 87 #[] g 0 cap ps.toArray w eg (cmp_reads g 0 ps.toArray.size w).lays hH hr.lt hsz tot_path
    rw [lt_cmp] at hS
    rw [← hpl] at hS
    refine hS.mono ?_
    rintro e w' ⟨h1, n, os, rfl⟩
    have hsp : (List.mergeSort (Array.toList ps.toArray) fun x y => !bytesBefore y x) = sortp ps := rfl
    rw [hsp]
    have hsl : (sortp ps).length = ps.length := (List.mergeSort_perm _ _).length_eq
    have hrow : Row (sortWorld penc w g 0 n (sortp ps).toArray os) g 9 (putCells penc 0 (sortp ps).toArray cur) := by
      have hlt := hr.lt
      unfold Row at hr ⊢
      show (w.heap.modify g (onCells (putCells penc 0 (sortp ps).toArray)) ++ os)[g]? = _
      rw [Array.getElem?_append_left (by simpa using hlt), Array.getElem?_modify, if_pos rfl, hr]; rfl
    have hlen2 : (pvs ps).length = (pvs (sortp ps)).length := by simp [pvs, hsl]
    refine ⟨h1, ?_, ⟨rfl, rfl, rfl, ?_, fun b hb hn => ?_⟩⟩
    · rw [hlen2] at hlc ⊢
      refine Own.mk hb hrow hlc (by simp [putCells, hs]) ?_ hm
      apply List.ext_getElem?
      intro j
      rw [List.getElem?_take]
      by_cases c : j < (pvs (sortp ps)).length
      · have c2 : j < (sortp ps).length := by simpa [pvs] using c
        have c3 : j < cur.size := by omega
        rw [if_pos c, Array.getElem?_toList]
        simp [putCells, c2, c3, pvs, penc]
      · rw [if_neg c, List.getElem?_eq_none (by omega)]
    · show w.heap.size ≤ (w.heap.modify g (onCells (putCells penc 0 (sortp ps).toArray)) ++ os).size
      simp
    · have hg : g ≠ b := fun e => hn (by rw [e]; rfl)
      show (w.heap.modify g (onCells (putCells penc 0 (sortp ps).toArray)) ++ os)[b]? = _
      rw [Array.getElem?_append_left (by simpa using hb), Array.getElem?_modify, if_neg hg]
end Go.Proofs.YthkbbcdnmdjhdaaGreat
/-! XDkV: Texts: two rows of the same strings. -/
namespace Go.Proofs.YthkbbcdnmdjhdaaGreat
open Go.RowKit Dk
set_option maxRecDepth 100000
set_option maxHeartbeats 4000000
attribute [local go_sem] min_int2 max_int2 bstr_toList

theorem texts_same (v u : Value) (ps : List Path) (w : World) (hv : Strs w v ps) (hu : Strs w u ps) (hl : ps.length ≤ maxLen) :
    Calls Tryz.prog 49 #[v, u] w fun e w' => e = .returned (.bool true) ∧ Ext w w' := by
  obtain ⟨a, c, rfl⟩ := hv.form
  obtain ⟨a2, c2, rfl⟩ := hu.form
  have HV := Lib.hid hv
  have HU := Lib.hid hu
  have hl' : ps.length ≤ 9223372036854775807 := hl
  clear hv hu hl
  go_enter Tryz.func49, Tryz.ntmps49
  go_wp2_with fail
  go_loopw [5] (fun v5 wr => ∃ i : Nat, i ≤ ps.length ∧ v5 = .int .i64 (i : Nat) ∧ Ext w wr) (fun v5 _ => (ps.length - intOf v5).toNat)
  case atStart => exact ⟨0, by omega, rfl, Ext.refl _⟩
  case round =>
    obtain ⟨i, hi, rfl, hE⟩ := hrel
    by_cases hlt : i < ps.length
    · have hlt' : (i : Int) < (ps.length : Int) := by omega
      obtain ⟨b1, o1, rfl, d1⟩ := Strs.at (Own.ext HV.out hE) hlt
      obtain ⟨b2, o2, rfl, d2⟩ := Strs.at (Own.ext HU.out hE) hlt
      obtain ⟨p, hp⟩ : ∃ p, ps[i] = p := ⟨_, rfl⟩
      rw [hp] at d1 d2
      have HE := Lib.hid (Ext.trans hE (Ext.of_drawn wr 1))
      have S0 : (fun w' : World => w'.cell? ⟨b1, o1 + i, none⟩ = some (.string (bstr p)) ∧ w'.cell? ⟨b2, o2 + i, none⟩ = some (.string (bstr p))) wr.drew := ⟨d1, d2⟩
      clear d1 d2 hp hE
      go_wp2_with fail
      go_region_held3 (fun w' : World => w'.cell? ⟨b1, o1 + i, none⟩ = some (.string (bstr p)) ∧ w'.cell? ⟨b2, o2 + i, none⟩ = some (.string (bstr p))) (assumption) (fail)
      go_wp2_with fail
      exact ⟨⟨i + 1, by omega, by go_num, HE.out⟩, by simp [intOf]; omega⟩
    · obtain rfl : i = ps.length := by omega
      clear hlt
      go_wp2_with fail
      go_ret
      exact ⟨rfl, hE⟩
end Go.Proofs.YthkbbcdnmdjhdaaGreat
/-! XDkY: A disk's List: all paths that begin so. -/
namespace Go.Proofs.YthkbbcdnmdjhdaaGreat
open Go.RowKit Dk Go.WideShapes Go.Sort Go.Shelf
set_option maxRecDepth 100000
set_option maxHeartbeats 4000000
attribute [local go_sem] min_int2 max_int2 bstr_toList

theorem nprefix_any (p q : Path) (w : World) : Calls Tryz.prog 132 #[.string (bstr p), .string (bstr q)] w fun e w' => e = .returned (.bool (q.isPrefixOf p)) ∧ w' = w := by
  have h := Any.strings_HasPrefix Tryz.hpL (bstr p) (bstr q)
  have eb : ∀ p : Path, (bstr p).data.toList = p := fun p => by unfold bstr; simp
  rw [eb, eb] at h
  go_enter Tryz.func132, Tryz.ntmps132
  go_wp2_with fail
  refine (h _).mono ?_; rintro e w' ⟨rfl, hw⟩; subst hw
  go_wp2_with fail
  go_ret
  exact ⟨rfl, rfl⟩
theorem closure_any (x p : Path) (b : Nat) (w : World) (hc : w.cell? ⟨b, 0, none⟩ = some (.string (bstr p))) :
    Calls Tryz.prog 131 #[.string (bstr x), .pointer (some ⟨b, 0, none⟩)] w fun e w' => e = .returned (.bool (!p.isPrefixOf x)) ∧ ∃ q, w' = w.drewN q := by
  go_enter Tryz.func131, Tryz.ntmps131
  go_wp2_with fail
  refine (nprefix_any x p _).mono ?_; rintro e w' ⟨rfl, hw⟩; subst hw
  go_wp2_with fail
  go_ret
  exact ⟨rfl, 0, rfl⟩
theorem row_put {w : World} {g : Nat} {cur : Array Value} (hr : Row w g 9 cur) (q : Nat) (d : Array Path) : Row (putRow penc (Sort.ahead w q) g 0 d) g 9 (putCells penc 0 d cur) := by
  have hlt := hr.lt
  unfold Row at hr ⊢
  show (w.heap.modify g (onCells (putCells penc 0 d)))[g]? = _
  rw [Array.getElem?_modify, if_pos rfl, hr]; rfl
theorem chg_put (w : World) (g q : Nat) (d : Array Path) : Chg (fun b => b = g) w (putRow penc (Sort.ahead w q) g 0 d) := by
  refine ⟨rfl, rfl, rfl, ?_, fun b hb hn => ?_⟩
  · show w.heap.size ≤ (w.heap.modify g (onCells (putCells penc 0 d))).size
    simp
  · have hg : g ≠ b := fun e => hn e.symm
    show (w.heap.modify g (onCells (putCells penc 0 d)))[b]? = _
    rw [Array.getElem?_modify, if_neg hg]
theorem having_eq (p : Path) (ps : List Path) : (ps.toArray.toList.filter fun x => !(!p.isPrefixOf x)) = having p ps := by unfold having; simp
theorem delf_any (w : World) (B g c b : Nat) (ps : List Path) (p : Path) (ho : Own w B 9 (.slice (some ⟨g, 0, none⟩) ps.length c) (pvs ps)) (hc : w.cell? ⟨b, 0, none⟩ = some (.string (bstr p))) (hb : b < B) (hl : ps.length ≤ 5000) :
    Calls Tryz.prog 130 #[.slice (some ⟨g, 0, none⟩) ps.length c, .func (.func 131) #[] #[.pointer (some ⟨b, 0, none⟩)]] w fun e w' =>
      e = .returned (.slice (some ⟨g, 0, none⟩) (having p ps).length c) ∧ Own w' B 9 (.slice (some ⟨g, 0, none⟩) (having p ps).length c) (pvs (having p ps)) ∧ Chg (fun b => b = g) w w' := by
  obtain ⟨-, -, -⟩ := (⟨trivial, trivial, trivial⟩ : True ∧ True ∧ True)
  rcases ho.forms with ⟨h1, -⟩ | ⟨g', cap, cur, h1, hB, hr, hlc, hs, ht, hm⟩
  · cases h1
  simp only [Value.slice.injEq, Option.some.injEq, Addr.mk.injEq] at h1
  obtain ⟨⟨rfl, -, -⟩, -, rfl⟩ := h1
  have hpl : (pvs ps).length = ps.toArray.size := by simp [pvs]
  have hcur : ∀ j, j < ps.length → cur[j]? = some (penc ps[j]!) := fun j hj => by
    have h1 : (List.take (pvs ps).length cur.toList)[j]? = (pvs ps)[j]? := by rw [ht]
    rw [List.getElem?_take, if_pos (by simpa [pvs] using hj), Array.getElem?_toList] at h1
    rw [h1]
    simp [pvs, penc, hj]
  have hH : Holds penc w g 0 ps.toArray := fun j hj => by
    have hj' : j < ps.length := by simpa using hj
    refine ⟨?_, hr.unfrozen _⟩
    have := hr.cell (hcur j hj')
    rw [Nat.zero_add]
    simpa using this
  have hbw : b < w.heap.size := World.block_lt_of_cell? w ⟨b, 0, none⟩ hc
  have hgb : b ≠ g := by omega
  have eg : ∀ args w, (callFunc 131 args).run Tryz.prog w = .ok (.enter 131 args) w := enters_of Tryz.func131 (by kernel_rfl) rfl
  have hlc' : ps.length ≤ c := by simpa [pvs] using hlc
  have hD := AnyE.slices_DeleteFunc Tryz.delL penc (fun _ => rfl) (fun x => !p.isPrefixOf x) 131 #[.pointer (some ⟨b, 0, none⟩)] eg [] Tryz.zeroValue9 g 0 c ps.toArray w
    (fun W x hW => closure_any x p b W ((hW.cell (p := ⟨b, 0, none⟩) hbw).trans hc))
    (fun n os dk x _ => closure_any x p b _ (by
      unfold sortWorld
      rw [cell?_grow _ _ _ (by show b < (putRow _ _ _ _ _).heap.size; rw [size_putRow]; exact hbw), cell?_putRow_other _ _ g 0 _ _ (Or.inl hgb)]
      exact hc)) hH (by simp; omega) (by simpa using hlc')
  rw [having_eq] at hD
  have hsz : (ps.toArray).size = ps.length := by simp
  rw [hsz] at hD
  refine hD.mono ?_
  rintro e w' ⟨h1, q, rfl⟩
  have hle : (having p ps).length ≤ ps.length := List.length_filter_le _ _
  have hd0 : ∀ j, j < (having p ps).length → ((having p ps) ++ List.replicate (ps.length - (having p ps).length) ([] : Path)).toArray[j]? = (having p ps)[j]? := fun j hj => by
    rw [List.getElem?_toArray, List.getElem?_append_left hj]
  have hd1 : ((having p ps) ++ List.replicate (ps.length - (having p ps).length) ([] : Path)).toArray.size = ps.length := by simp; omega
  obtain ⟨d, hd⟩ : ∃ d, ((having p ps) ++ List.replicate (ps.length - (having p ps).length) ([] : Path)).toArray = d := ⟨_, rfl⟩
  rw [hd] at hd0 hd1 ⊢
  obtain ⟨rs, hrs⟩ : ∃ rs, having p ps = rs := ⟨_, rfl⟩
  rw [hrs] at hd0 hle h1 ⊢
  have hrow := row_put hr q d
  refine ⟨h1, ?_, chg_put w g q _⟩
  have hl2 : (pvs rs).length = rs.length := by simp [pvs]
  have hpl3 : (pvs ps).length = ps.length := by simp [pvs]
  have hO : Own (putRow penc (Sort.ahead w q) g 0 d) B 9 (.slice (some ⟨g, 0, none⟩) (pvs rs).length c) (pvs rs) := by
    refine Own.mk hB hrow (by omega) (by simp [putCells, hs]) ?_ hm
    apply List.ext_getElem?
    intro j
    rw [List.getElem?_take]
    by_cases h : j < (pvs rs).length
    · have c2 : j < rs.length := by omega
      have c3 : j < cur.size := by omega
      have c4 : j < d.size := by omega
      have c5 : d[j]? = rs[j]? := hd0 j c2
      rw [if_pos h, Array.getElem?_toList]
      have e1 : d[j]! = rs[j] := by rw [getElem!_def, c5, List.getElem?_eq_getElem c2]
      simp [putCells, c2, c3, c4, pvs, penc]
      have e2 : d[j] = rs[j] := by rw [← e1, getElem!_pos d j c4]
      rw [e2]
    · rw [if_neg h, List.getElem?_eq_none (by omega)]
  rw [hl2] at hO
  exact hO
def ListOut (s : Nat) (fp : Option Nat) (z : Option FS) (d : DS) (S : Nat → Prop) (p : Path) (w : World) (e : Ending) (w' : World) : Prop :=
  ∃ u, e = .returned (.tuple #[u, .int .i64 ((begins z d []).1 : Nat)]) ∧ Own w' w.heap.size 9 u (pvs (lists z d p)) ∧ FzAt w' fp (begins z d []).2.1 ∧ SimAt w' s fp (begins z d []).2.2 S ∧ Chg (fun b => S b ∨ fp = some b) w w'
theorem list_any (s : Nat) (fp : Option Nat) (z : Option FS) (d : DS) (S : Nat → Prop) (p : Path) (w : World) (h : SimAt w s fp d S) (hz : FzAt w fp z) (hzo : zops z < 1099511627776) (hn : d.fs.length ≤ 4096) :
    Calls Tryz.prog 109 #[.pointer (some ⟨s, 0, none⟩), .string (bstr p)] w (ListOut s fp z d S p w) := by
  have hSlt := h.lt'
  obtain ⟨m, es, h, hS1, hS2, hS3⟩ := h
  have x0 : Ext w (w.alloc (.cells #[.string (bstr p)] 9)) := (Ext.refl w).alloc (Nat.le_refl _) _
  have hr0 := Row.new w 9 #[.string (bstr p)]
  have h1 := h.chg (Chg.of_ext x0 (fun _ => False)) (fun _ _ h => h)
  have hz1 := hz.chg (Chg.of_ext x0 (fun _ => False)) (fun _ _ h => h)
  have HLT : Hid (∀ b, (S b ∨ fp = some b) → b < w.heap.size) := Lib.hid (fun b hb => hb.elim (hSlt b) fun hb => hz.lt b hb)
  have hb0 := begins_fs z d []
  obtain ⟨w1, hw1⟩ : ∃ w1, w.alloc (.cells #[.string (bstr p)] 9) = w1 := ⟨_, rfl⟩
  have hsz1 : w1.heap.size = w.heap.size + 1 := by rw [← hw1]; simp
  have HW1 := Lib.hid hw1
  rw [hw1] at x0 hr0 h1 hz1
  have H := Lib.hid (And.intro h1 (And.intro hz1 (And.intro hr0 (And.intro x0 hsz1))))
  have HS := Lib.hid (And.intro hS1 (And.intro hS2 hS3))
  have HB0 := Lib.hid hb0
  clear h hz hS1 hS2 hS3 hSlt x0 hr0 h1 hz1 hb0 hsz1 hw1
  go_enter Tryz.func109, Tryz.ntmps109
  go_wp2_with fail
  rw [HW1.out]
  refine (begin_any s m fp z es d [] _ _ H.out.1 H.out.2.1 hzo (by simp) (by simp) (Own.nil _ _ _)).mono ?_; rintro e w2 ⟨rfl, hz2, h2, hg2, hsz2⟩
  have HG2 := Lib.hid (hg2.mono (T := fun b => S b ∨ fp = some b) fun b _ hb => by
    rcases hb with rfl | hb
    · exact .inl (HS.out.1 _ (.inl rfl))
    · exact .inr hb)
  have HZ2 := Lib.hid hz2
  have H2 := Lib.hid (And.intro h2 (show SimAt w2 s fp (begins z d []).2.2 S from ⟨m, es, h2, HS.out.1, fun b hb => Nat.lt_of_lt_of_le (HS.out.2.1 b hb) (Nat.le_trans H.out.2.2.2.1.size hg2.size), HS.out.2.2⟩))
  have HR2 := Lib.hid (H.out.2.2.1.chg HG2.out (fun hx => Nat.lt_irrefl _ (HLT.out _ hx)))
  have HG := Lib.hid ((Chg.of_ext H.out.2.2.2.1 (fun b => S b ∨ fp = some b)).trans HG2.out)
  clear hz2 h2 hg2 hsz2
  obtain ⟨n, hnn⟩ : ∃ n, (begins z d []).1 = n := ⟨_, rfl⟩
  rw [hnn]
  by_cases h0 : n = 0
  case neg =>
    have q1 : ((n : Int) != 0) = true := by simp; omega
    have HW : Hid (lists z d p = []) := Lib.hid (by unfold lists; rw [hnn, if_neg h0])
    have HB := Lib.hid (show Own w2 w.heap.size 9 (.slice none 0 0) (pvs (lists z d p)) by rw [HW.out]; exact Own.nil _ _ _)
    have HN := Lib.hid hnn
    clear h0 hnn
    go_wp2_with fail
    go_ret2
    exact ⟨_, by rw [HN.out]; rfl, HB.out, HZ2.out, H2.out.2, HG.out⟩
  subst h0
  have q1 : (((0 : Nat) : Int) != 0) = false := rfl
  have HW : Hid (lists z d p = having p (paths d.fs)) := Lib.hid (by unfold lists; rw [hnn, if_pos rfl]; rfl)
  have HN := Lib.hid hnn
  clear hnn
  go_wp2_with fail
  refine (files_some sort_ok s m fp es _ _ H2.out.1 (by rw [HB0.out]; exact hn)).mono ?_; rintro e w3 ⟨v, rfl, ⟨a, c, hv⟩, ho, x3⟩
  rw [HB0.out] at ho hv
  have hplen : d.fs.length = (paths d.fs).length := by simp [paths]
  rw [hplen] at hv
  obtain ⟨g, hg⟩ : ∃ g, a = ⟨g, 0, none⟩ := by
    rcases ho.forms with ⟨h1, -⟩ | ⟨g', cap, cur, h1, -⟩
    · rw [hv] at h1; cases h1
    · rw [hv] at h1; simp only [Value.slice.injEq, Option.some.injEq] at h1; exact ⟨g', h1.1⟩
  subst hg
  subst hv
  have hgB := ho.block g rfl
  have F3 := Lib.hid (And.intro (HR2.out.chg (Chg.of_ext x3 (fun _ => False)) (fun h => h)) (And.intro (HZ2.out.chg (Chg.of_ext x3 (fun _ => False)) (fun _ _ h => h)) (And.intro (H2.out.2.ext x3) (And.intro (HG.out.trans (Chg.of_ext x3 _)) (And.intro ho (And.intro hgB (And.intro HG2.out.size x3.size)))))))
  obtain ⟨ps, hps⟩ : ∃ ps, paths d.fs = ps := ⟨_, rfl⟩
  have hpl : ps.length ≤ 4096 := by rw [← hps]; omega
  rw [hps] at F3 HW ⊢
  clear ho x3 hplen hgB hps hn
  go_wp2_with fail
  refine (delf_any w3 w2.heap.size g c w.heap.size ps p F3.out.2.2.2.2.1 (F3.out.1.cell (i := 0) rfl) (by have := F3.out.2.2.2.2.2.2.1; have := H.out.2.2.2.2; omega) (by omega)).mono ?_; rintro e w4 ⟨rfl, ho, hg4⟩
  have hgw : w.heap.size ≤ g := by have := F3.out.2.2.2.2.2.1; have := F3.out.2.2.2.2.2.2.1; have := H.out.2.2.2.2; omega
  have hng : ∀ b, (S b ∨ fp = some b) → ¬ b = g := fun b hb e => by have := HLT.out b hb; omega
  have F4 := Lib.hid (And.intro (show Own w4 w.heap.size 9 (.slice (some ⟨g, 0, none⟩) (having p ps).length c) (pvs (lists z d p)) by rw [HW.out]; exact ho.mono (by have := F3.out.2.2.2.2.2.2.1; have := H.out.2.2.2.2; omega)) (And.intro (F3.out.2.1.chg hg4 (fun b hb => hng b (.inr hb))) (And.intro (F3.out.2.2.1.chg hg4 (fun b hb => hng b (.inl hb))) (show Chg (fun b => S b ∨ fp = some b) w w4 from F3.out.2.2.2.1.then (hg4.mono fun b hb e => by subst e; exact .inr ⟨hgw, hb⟩)))))
  clear ho hg4 hng hgw
  go_wp2_with fail
  go_ret2
  exact ⟨_, by rw [HN.out]; rfl, F4.out.1, F4.out.2.1, F4.out.2.2.1, F4.out.2.2.2⟩
end Go.Proofs.YthkbbcdnmdjhdaaGreat
/-! XDkZ: Disks and fuses as things of their own (Sep). -/
namespace Go.Proofs.YthkbbcdnmdjhdaaGreat
open Go.RowKit Dk
set_option maxRecDepth 100000
set_option maxHeartbeats 4000000

def fuseT (fp : Option Nat) (z : Option FS) : Thing :=
  ⟨fun w T => FzAt w fp z ∧ ∀ b, T b ↔ fp = some b, fun h b hb => h.1.lt b ((h.2 b).1 hb), fun h hc hn => ⟨h.1.chg hc fun b hb => hn b ((h.2 b).2 hb), h.2⟩⟩
def simT (s : Nat) (fp : Option Nat) (d : DS) : Thing := ⟨fun w T => SimAt w s fp d T, fun h => h.lt', fun h hc hn => h.chg hc hn⟩
section
variable {w0 w w' : World} {Y Z : Thing} {s : Nat} {fp : Option Nat} {z : Option FS} {d : DS}
theorem Lab.fz (h : Lab w0 w ((fuseT fp z).star Z)) : FzAt w fp z := by obtain ⟨T, h⟩ := h.left.get; exact h.1
theorem Lab.simAt (h : Lab w0 w (simT s fp d)) : ∃ S, SimAt w s fp d S := h.get
theorem Lab.raw (h : Lab w0 w (simT s fp d)) : ∃ m es, Raw w s fp m es d := by obtain ⟨S, m, es, h, _⟩ := h.get; exact ⟨m, es, h⟩
theorem Lab.newfuse (h : Lab w0 w Y) : Calls Tryz.prog 66 #[] w fun e w' => ∃ f, e = .returned (.pointer (some ⟨f, 0, none⟩)) ∧ Lab w0 w' ((fuseT (some f) (some ⟨0, 0, false⟩)).star Y) :=
  (newfuse_any w).mono fun _ w' ⟨h1, h2, h3, h4⟩ => ⟨_, h1, h.new h3 (X := fuseT (some w.heap.size) (some ⟨0, 0, false⟩)) (T := fun b => some w.heap.size = some b) ⟨h2, fun _ => Iff.rfl⟩ fun _ hb => by cases hb; exact Nat.le_refl _⟩
theorem Lab.newdisk (n : Int) (h : Lab w0 w ((fuseT fp z).star Y)) : Calls Tryz.prog 67 #[.int .i64 n, fptr fp] w fun e w' => ∃ s, e = .returned (.pointer (some ⟨s, 0, none⟩)) ∧ Lab w0 w' ((fuseT fp z).star ((simT s fp ⟨mostOf n, false, 0, []⟩).star Y)) :=
  (dnew_any n fp w fun b hb => h.fz.lt b hb).mono fun _ w' ⟨h1, h2, h3⟩ => ⟨_, h1, (h.new h3 (X := simT (w.heap.size + 1) fp ⟨mostOf n, false, 0, []⟩) (T := Grow (fun _ => False) w w') h2 fun _ hb => hb.elim False.elim fun h => h.1).swap⟩
theorem Lab.nofuse (h : Lab w0 w Y) : Lab w0 w ((fuseT none none).star Y) := h.new (Ext.refl w) (T := fun _ => False) ⟨trivial, fun b => ⟨False.elim, fun e => by cases e⟩⟩ fun _ h => h.elim
theorem Lab.simout {P : Program} {f : FuncId} {args : Array Value} {r : Nat × Option FS × DS} (hL : Lab w0 w ((fuseT fp z).star ((simT s fp d).star Y))) (h : ∀ S, FzAt w fp z → SimAt w s fp d S → Calls P f args w (SimOut s fp S w r)) :
    Calls P f args w fun e w' => e = .returned (.int .i64 (r.1 : Nat)) ∧ Lab w0 w' ((fuseT fp r.2.1).star ((simT s fp r.2.2).star Y)) := by
  refine (Lab.call (Q := fun X' e => e = .returned (.int .i64 (r.1 : Nat)) ∧ X' = (fuseT fp r.2.1).star (simT s fp r.2.2)) hL.assoc' ?_).mono ?_
  · rintro T ⟨A, S, ⟨h1, h2⟩, h3, h4, h5⟩
    have hS : SimAt w s fp d S := h3
    refine (h S h1 hS).mono fun e w' ⟨k1, k2, k3, k4⟩ => ⟨_, ⟨k1, rfl⟩, k4.mono (fun b _ hb => (h5 b).2 (hb.elim .inr fun hb => .inl ((h2 b).2 hb))), fun b => fp = some b ∨ Grow S w w' b, fun b hb => ?_, fun b => fp = some b, Grow S w w', ⟨k2, fun _ => Iff.rfl⟩, k3, fun b hb hg => ?_, fun _ => Iff.rfl⟩
    · rcases hb with hb | hb | hb
      · exact .inl ((h5 b).2 (.inl ((h2 b).2 hb)))
      · exact .inl ((h5 b).2 (.inr hb))
      · exact .inr hb
    · obtain ⟨_, _, _, _, _, h6⟩ := k3
      exact h6 b hb hg
  · rintro e w' ⟨X', ⟨h1, rfl⟩, h2⟩
    exact ⟨h1, h2.assoc⟩
theorem Lab.simturn {P : Program} {f : FuncId} {args : Array Value} {d' : DS} {e0 : Ending} (hL : Lab w0 w ((simT s fp d).star Y)) (h : ∀ S, SimAt w s fp d S → Calls P f args w fun e w' => e = e0 ∧ SimAt w' s fp d' S ∧ Chg S w w') :
    Calls P f args w fun e w' => e = e0 ∧ Lab w0 w' ((simT s fp d').star Y) := by
  refine (Lab.call (Q := fun X' e => e = e0 ∧ X' = simT s fp d') hL ?_).mono ?_
  · intro T hT
    exact (h T hT).mono fun e w' ⟨k1, k2, k3⟩ => ⟨_, ⟨k1, rfl⟩, k3, T, fun b hb => .inl hb, k2⟩
  · rintro e w' ⟨X', ⟨h1, rfl⟩, h2⟩
    exact ⟨h1, h2⟩
/-- An operation that also hands out a slice of its own. -/
theorem Lab.simgive {P : Program} {f : FuncId} {args : Array Value} {z' : Option FS} {d' : DS} {ty : TypeId} {cs : List Value} {E : Value → Ending} (hL : Lab w0 w ((fuseT fp z).star ((simT s fp d).star Y)))
    (h : ∀ S, FzAt w fp z → SimAt w s fp d S → Calls P f args w fun e w' => ∃ u, e = E u ∧ Own w' w.heap.size ty u cs ∧ FzAt w' fp z' ∧ SimAt w' s fp d' S ∧ Chg (fun b => S b ∨ fp = some b) w w') :
    Calls P f args w fun e w' => ∃ u, e = E u ∧ Lab w0 w' ((ownT ty u cs).star ((fuseT fp z').star ((simT s fp d').star Y))) := by
  refine (Lab.call (Q := fun X' e => ∃ u, e = E u ∧ X' = (ownT ty u cs).star ((fuseT fp z').star (simT s fp d'))) hL.assoc' ?_).mono ?_
  · rintro T ⟨A, S, ⟨h1, h2⟩, h3, h4, h5⟩
    have hS : SimAt w s fp d S := h3
    have lt := hS.lt'
    have ltf := h1.lt
    refine (h S h1 hS).mono fun e w' ⟨u, k1, k0, k2, k3, k4⟩ => ⟨_, ⟨u, k1, rfl⟩, k4.mono (fun b _ hb => (h5 b).2 (hb.elim .inr fun hb => .inl ((h2 b).2 hb))), fun b => u.ownBlock = some b ∨ (fp = some b ∨ S b), fun b hb => ?_, fun b => u.ownBlock = some b, fun b => fp = some b ∨ S b, ⟨k0.mono (Nat.zero_le _), fun _ => Iff.rfl⟩,
      ⟨fun b => fp = some b, S, ⟨k2, fun _ => Iff.rfl⟩, k3, fun b hb hg => ?_, fun _ => Iff.rfl⟩, fun b hb hg => ?_, fun _ => Iff.rfl⟩
    · rcases hb with hb | hb | hb
      · exact .inr ⟨k0.block b hb, k0.lt hb⟩
      · exact .inl ((h5 b).2 (.inl ((h2 b).2 hb)))
      · exact .inl ((h5 b).2 (.inr hb))
    · obtain ⟨_, _, _, _, _, h6⟩ := k3
      exact h6 b hb hg
    · have := k0.block b hb
      rcases hg with hg | hg
      · have := ltf b hg; omega
      · have := lt b hg; omega
  · rintro e w' ⟨X', ⟨u, h1, rfl⟩, h2⟩
    exact ⟨u, h1, h2.assoc.ent (.star (.refl _) .assoc)⟩
theorem Lab.write (hL : Lab w0 w ((fuseT fp z).star ((simT s fp d).star Y))) (p : Path) (v : Value) (b : List UInt8) (hzo : zops z < 1099511627776) (hp : p.length ≤ maxLen) (hv : Bytes w v b) (hb : b.length ≤ 140737488351232) (ht : tot d.fs ≤ 1099511627776) (hn : d.fs.length ≤ 4096) :
    Calls Tryz.prog 45 #[.pointer (some ⟨s, 0, none⟩), .string (bstr p), v] w fun e w' => e = .returned (.int .i64 ((writes z d p b).1 : Nat)) ∧ Lab w0 w' ((fuseT fp (writes z d p b).2.1).star ((simT s fp (writes z d p b).2.2).star Y)) :=
  hL.simout fun S hz hS => write_any s fp z d S p v b w hS hz hzo hp hv hb ht hn
theorem Lab.sync (hL : Lab w0 w ((fuseT fp z).star ((simT s fp d).star Y))) (p : Path) (hzo : zops z < 1099511627776) (hp : p.length ≤ maxLen) :
    Calls Tryz.prog 106 #[.pointer (some ⟨s, 0, none⟩), .string (bstr p)] w fun e w' => e = .returned (.int .i64 ((syncs z d p).1 : Nat)) ∧ Lab w0 w' ((fuseT fp (syncs z d p).2.1).star ((simT s fp (syncs z d p).2.2).star Y)) :=
  hL.simout fun S hz hS => sync_any s fp z d S p w hS hz hzo hp
theorem Lab.delete (hL : Lab w0 w ((fuseT fp z).star ((simT s fp d).star Y))) (p : Path) (hzo : zops z < 1099511627776) (hp : p.length ≤ maxLen) :
    Calls Tryz.prog 108 #[.pointer (some ⟨s, 0, none⟩), .string (bstr p)] w fun e w' => e = .returned (.int .i64 ((deletes z d p).1 : Nat)) ∧ Lab w0 w' ((fuseT fp (deletes z d p).2.1).star ((simT s fp (deletes z d p).2.2).star Y)) :=
  hL.simout fun S hz hS => delete_any s fp z d S p w hS hz hzo hp
theorem Lab.rename (hL : Lab w0 w ((fuseT fp z).star ((simT s fp d).star Y))) (p q : Path) (hzo : zops z < 1099511627776) (hp : p.length ≤ maxLen) (hq : q.length ≤ maxLen) (hn : d.fs.length ≤ 4096) :
    Calls Tryz.prog 107 #[.pointer (some ⟨s, 0, none⟩), .string (bstr p), .string (bstr q)] w fun e w' => e = .returned (.int .i64 ((renames z d p q).1 : Nat)) ∧ Lab w0 w' ((fuseT fp (renames z d p q).2.1).star ((simT s fp (renames z d p q).2.2).star Y)) :=
  hL.simout fun S hz hS => rename_any s fp z d S p q w hS hz hzo hp hq hn
theorem Lab.read (hL : Lab w0 w ((fuseT fp z).star ((simT s fp d).star Y))) (p : Path) (hzo : zops z < 1099511627776) (hp : p.length ≤ maxLen) (ht : tot d.fs ≤ 1099511627776) :
    Calls Tryz.prog 105 #[.pointer (some ⟨s, 0, none⟩), .string (bstr p)] w fun e w' => ∃ u, e = .returned (.tuple #[u, .int .i64 (opens z d p [] : Nat)]) ∧ Lab w0 w' ((ownT 5 u (bvs (readb z d p))).star ((fuseT fp (begins z d [p]).2.1).star ((simT s fp (begins z d [p]).2.2).star Y))) :=
  hL.simgive fun S hz hS => read_any s fp z d S p w hS hz hzo hp ht
theorem Lab.list (hL : Lab w0 w ((fuseT fp z).star ((simT s fp d).star Y))) (p : Path) (hzo : zops z < 1099511627776) (hn : d.fs.length ≤ 4096) :
    Calls Tryz.prog 109 #[.pointer (some ⟨s, 0, none⟩), .string (bstr p)] w fun e w' => ∃ u, e = .returned (.tuple #[u, .int .i64 ((begins z d []).1 : Nat)]) ∧ Lab w0 w' ((ownT 9 u (pvs (lists z d p))).star ((fuseT fp (begins z d []).2.1).star ((simT s fp (begins z d []).2.2).star Y))) :=
  hL.simgive fun S hz hS => list_any s fp z d S p w hS hz hzo hn
theorem Lab.crash (hL : Lab w0 w ((simT s fp d).star Y)) (keep : Int) (hk : -9223372036854775808 ≤ keep ∧ keep ≤ 9223372036854775807) (ht : tot d.fs ≤ 1099511627776) :
    Calls Tryz.prog 64 #[.pointer (some ⟨s, 0, none⟩), .int .i64 keep] w fun e w' => e = .returned (.tuple #[]) ∧ Lab w0 w' ((simT s fp (d.crash keep)).star Y) :=
  hL.simturn fun S hS => crash_any s fp d S keep hk w hS ht
theorem Lab.wipe (hL : Lab w0 w ((simT s fp d).star Y)) :
    Calls Tryz.prog 111 #[.pointer (some ⟨s, 0, none⟩)] w fun e w' => e = .returned (.tuple #[]) ∧ Lab w0 w' ((simT s fp { d with fs := [] }).star Y) :=
  hL.simturn fun S hS => wipe_any s fp d S w hS
theorem Lab.offline (hL : Lab w0 w ((simT s fp d).star Y)) (b : Bool) :
    Calls Tryz.prog 18 #[.pointer (some ⟨s, 0, none⟩), .bool b] w fun e w' => e = .returned (.tuple #[]) ∧ Lab w0 w' ((simT s fp { d with off := b }).star Y) :=
  hL.simturn fun S hS => offline_any s fp d S b w hS
theorem Lab.fail (hL : Lab w0 w ((simT s fp d).star Y)) (n : Int) (hn : n ≤ 9223372036854775807) :
    Calls Tryz.prog 13 #[.pointer (some ⟨s, 0, none⟩), .int .i64 n] w fun e w' => e = .returned (.tuple #[]) ∧ Lab w0 w' ((simT s fp { d with bad := n.toNat }).star Y) :=
  hL.simturn fun S hS => fail_any s fp d S n hn w hS
/-! what only reads: the disk, and all that is there (Z) -/
theorem Lab.used (hL : Lab w0 w Z) (hS : Lab w0 w (simT s fp d)) (ht : tot d.fs ≤ 1099511627776) :
    Calls Tryz.prog 84 #[.pointer (some ⟨s, 0, none⟩)] w fun e w' => e = .returned (.int .i64 (tot d.fs : Nat)) ∧ Lab w0 w' Z := by
  obtain ⟨m, es, h⟩ := hS.raw
  exact (used_any s m fp es d w h ht).mono fun e w' ⟨h1, h2⟩ => ⟨h1, hL.ext h2⟩
theorem Lab.room (hL : Lab w0 w Z) (hS : Lab w0 w (simT s fp d)) (ht : tot d.fs ≤ 1099511627776) :
    Calls Tryz.prog 114 #[.pointer (some ⟨s, 0, none⟩)] w fun e w' => e = .returned (.int .i64 ((d.most : Int) - tot d.fs)) ∧ Lab w0 w' Z := by
  obtain ⟨S, h⟩ := hS.simAt
  exact (sroom_any s fp d S w h ht).mono fun e w' ⟨h1, h2⟩ => ⟨h1, hL.ext h2⟩
theorem Lab.files (hL : Lab w0 w Z) (hS : Lab w0 w (simT s fp d)) (hn : d.fs.length ≤ 4096) :
    Calls Tryz.prog 46 #[.pointer (some ⟨s, 0, none⟩)] w fun e w' => ∃ v, e = .returned v ∧ Lab w0 w' ((ownT 9 v (pvs (paths d.fs))).star Z) := by
  obtain ⟨m, es, h⟩ := hS.raw
  exact (files_any sort_ok s m fp es d w h hn).mono fun e w' ⟨v, h1, h2, h3⟩ => ⟨v, h1, hL.new h3 (X := ownT 9 v (pvs (paths d.fs))) (T := fun b => v.ownBlock = some b) ⟨h2.mono (Nat.zero_le _), fun _ => Iff.rfl⟩ fun b hb => h2.block b hb⟩
theorem Lab.look (hL : Lab w0 w Z) (hS : Lab w0 w (simT s fp d)) (p : Path) (hp : p.length ≤ maxLen) (ht : tot d.fs ≤ 1099511627776) :
    Calls Tryz.prog 47 #[.pointer (some ⟨s, 0, none⟩), .string (bstr p)] w fun e w' => ∃ u, e = .returned (.tuple #[u, .bool (match Dk.get p d.fs with | some f => f.sure | none => false), .bool (Dk.get p d.fs).isSome]) ∧ Lab w0 w' ((ownT 5 u (bvs (match Dk.get p d.fs with | some f => f.b | none => []))).star Z) := by
  obtain ⟨S, h⟩ := hS.simAt
  exact (look_any s fp d S p w h hp ht).mono fun e w' ⟨v, h1, h2, h3⟩ => ⟨v, h1, hL.new h3 (X := ownT 5 v _) (T := fun b => v.ownBlock = some b) ⟨h2.mono (Nat.zero_le _), fun _ => Iff.rfl⟩ fun b hb => h2.block b hb⟩
theorem Lab.fset {f : Nat} {zz : FS} (hL : Lab w0 w ((fuseT (some f) (some zz)).star Y)) (n : Int) (hn : -9223372036854775808 ≤ n ∧ n ≤ 9223372036854775807) :
    Calls Tryz.prog 24 #[.pointer (some ⟨f, 0, none⟩), .int .i64 n] w fun e w' => e = .returned (.tuple #[]) ∧ Lab w0 w' ((fuseT (some f) (some ⟨n, 0, false⟩)).star Y) := by
  refine (Lab.call (Q := fun X' e => e = .returned (.tuple #[]) ∧ X' = fuseT (some f) (some ⟨n, 0, false⟩)) hL ?_).mono ?_
  · intro T hT
    exact (fset_any f zz n hn w hT.1).mono fun e w' ⟨k1, k2, k3, k4⟩ => ⟨_, ⟨k1, rfl⟩, k3.mono (fun b _ hb => (hT.2 b).2 hb), T, fun b hb => .inl hb, k2, hT.2⟩
  · rintro e w' ⟨X', ⟨h1, rfl⟩, h2⟩
    exact ⟨h1, h2⟩
end
end Go.Proofs.YthkbbcdnmdjhdaaGreat
/-! XDkLp: DiskLists: the plain law. -/
namespace Go.Proofs.YthkbbcdnmdjhdaaGreat
open Go.RowKit Dk
set_option maxRecDepth 100000
set_option maxHeartbeats 4000000

/-- A disk that is on, with room for much. -/
def DS.calm (d : DS) (n : Nat) : Prop := d.most = n ∧ d.off = false ∧ d.bad = 0
theorem calm_begins {d : DS} {n : Nat} (h : DS.calm d n) (ps : List Path) (hp : ps.all okP = true) : begins none d ps = (0, none, d) := by
  unfold begins
  rw [h.2.1, h.2.2, hp]; rfl
/-- How much is on a disk behind i deeds. -/
structure Few (d : DS) (i : Nat) : Prop where
  up : Up d.fs
  len : d.fs.length ≤ i
  tot : tot d.fs ≤ i * 5000
theorem Few.more {d : DS} {i : Nat} (h : Few d i) : Few d (i + 1) := ⟨h.up, by have := h.len; omega, by have := h.tot; omega⟩
theorem calm_writes {d : DS} {n i : Nat} (h : DS.calm d n) (hf : Few d i) (p : Path) (hp : okP p = true) (b : List UInt8) (hb : b.length ≤ 5000) (hn : (i + 1) * 5000 ≤ n) (hi : i < 4096) :
    writes none d p b = (0, none, { d with fs := put p ⟨b, false⟩ d.fs }) ∧ Few { d with fs := put p ⟨b, false⟩ d.fs } (i + 1) := by
  have h1 := tot_put hf.up p ⟨b, false⟩
  have h2 := put_length hf.up p (⟨b, false⟩ : Fil)
  have h3 : (⟨b, false⟩ : Fil).b.length = b.length := rfl
  have hl := hf.len
  have ht := hf.tot
  refine ⟨?_, put_up hf.up, ?_, ?_⟩
  · unfold writes
    rw [calm_begins h [p] (by simp [hp])]
    obtain ⟨mn, hmn⟩ : ∃ mn, (if (get p d.fs).isSome then d.fs.length else d.fs.length + 1) = mn := ⟨_, rfl⟩
    have hmn2 : mn ≤ 4096 := by rw [← hmn]; split <;> omega
    have hm := h.1
    simp only [hmn]
    rw [if_neg (by simp), if_neg (by omega), if_neg (by omega)]
  · show (put p (⟨b, false⟩ : Fil) d.fs).length ≤ i + 1
    rw [h2]; split <;> omega
  · show Dk.tot (put p (⟨b, false⟩ : Fil) d.fs) ≤ (i + 1) * 5000
    omega
/-- The names so far, and what each was written with last. -/
structure Named (w : World) (d : DS) (ns : List Path) (dv : List Value) : Prop where
  nd : ns.Nodup
  iff : ∀ p, p ∈ ns ↔ (get p d.fs).isSome = true
  len : d.fs.length = ns.length
  lv : dv.length = ns.length
  ok : ∀ p, p ∈ ns → okP p = true
  dat : ∀ (k : Nat) (u : Value) (p : Path), dv[k]? = some u → ns[k]? = some p → ∃ f a c, get p d.fs = some f ∧ u = .slice a f.b.length c ∧ Bytes w u f.b
theorem Named.start (w : World) (m : Nat) : Named w ⟨m, false, 0, []⟩ [] [] := ⟨List.nodup_nil, fun p => by simp [Dk.get], rfl, rfl, fun p hp => by simp at hp, fun k u p h => by simp at h⟩
theorem Named.more {w : World} {d : DS} {ns : List Path} {dv : List Value} (h : Named w d ns dv) (hu : Up d.fs) {p : Path} (hp : p ∉ ns) (hk : okP p = true) {a : Option Addr} {b : List UInt8} {c : Nat} (hb : Bytes w (.slice a b.length c) b) : Named w { d with fs := put p ⟨b, false⟩ d.fs } (ns ++ [p]) (dv ++ [.slice a b.length c]) := by
  have hg : get p d.fs = none := by
    cases hg : get p d.fs with
    | none => rfl
    | some f => exact absurd ((h.iff p).2 (by rw [hg]; rfl)) hp
  refine ⟨?_, fun q => ?_, ?_, by simp [h.lv], fun q hq => (List.mem_append.1 hq).elim (h.ok q) fun hq => by rw [List.mem_singleton.1 hq]; exact hk, fun k u q hk hq => ?_⟩
  · rw [List.nodup_append]
    exact ⟨h.nd, by simp, fun x hx y hy => by
      simp only [List.mem_singleton] at hy
      intro e; rw [e, hy] at hx; exact hp hx⟩
  · rw [List.mem_append, List.mem_singleton, h.iff]
    show _ ↔ (get q (put p ⟨b, false⟩ d.fs)).isSome = true
    rw [get_put hu]
    by_cases e : p = q
    · rw [if_pos e]; simp [e]
    · rw [if_neg e]
      exact ⟨fun hh => hh.elim id fun e2 => absurd e2.symm e, .inl⟩
  · show (put p (⟨b, false⟩ : Fil) d.fs).length = _
    rw [put_length hu, hg]; simp [h.len]
  · show ∃ f a c, get q (put p ⟨b, false⟩ d.fs) = some f ∧ _
    rw [get_put hu]
    by_cases hlt : k < ns.length
    · rw [List.getElem?_append_left (by rw [h.lv]; exact hlt)] at hk
      rw [List.getElem?_append_left hlt] at hq
      have hne : ¬ p = q := fun e => hp (e ▸ List.mem_of_getElem? hq)
      rw [if_neg hne]
      exact h.dat k u q hk hq
    · rw [List.getElem?_append_right (by omega)] at hq
      rw [List.getElem?_append_right (by rw [h.lv]; omega), h.lv] at hk
      have h0 : k - ns.length = 0 := by
        have := (List.getElem?_eq_some_iff.1 hq).1
        simp at this; omega
      rw [h0] at hk hq
      simp at hk hq
      subst hk hq
      rw [if_pos rfl]
      exact ⟨_, _, _, rfl, rfl, hb⟩
theorem Named.again {w : World} {d : DS} {ns : List Path} {dv : List Value} (h : Named w d ns dv) (hu : Up d.fs) {p : Path} {k : Nat} (hp : ns[k]? = some p) {a : Option Addr} {b : List UInt8} {c : Nat} (hb : Bytes w (.slice a b.length c) b) : Named w { d with fs := put p ⟨b, false⟩ d.fs } ns (dv.set k (.slice a b.length c)) := by
  have hin : (get p d.fs).isSome = true := (h.iff p).1 (List.mem_of_getElem? hp)
  refine ⟨h.nd, fun q => ?_, ?_, by simp [h.lv], h.ok, fun j u q hk hq => ?_⟩
  · rw [h.iff]
    show _ ↔ (get q (put p ⟨b, false⟩ d.fs)).isSome = true
    rw [get_put hu]
    by_cases e : p = q
    · rw [if_pos e, ← e, hin]; simp
    · rw [if_neg e]
  · show (put p (⟨b, false⟩ : Fil) d.fs).length = _
    rw [put_length hu, hin, if_pos rfl, h.len]
  · show ∃ f a c, get q (put p ⟨b, false⟩ d.fs) = some f ∧ _
    rw [get_put hu]
    rw [List.getElem?_set] at hk
    by_cases e : k = j
    · subst e
      rw [hp] at hq
      obtain rfl := Option.some.inj hq
      rw [if_pos rfl] at hk ⊢
      split at hk
      · cases hk; exact ⟨_, _, _, rfl, rfl, hb⟩
      · cases hk
    · rw [if_neg e] at hk
      have hne : ¬ p = q := fun e2 => by
        subst e2
        obtain ⟨h1, h2⟩ := List.getElem?_eq_some_iff.1 hp
        obtain ⟨h3, h4⟩ := List.getElem?_eq_some_iff.1 hq
        exact e ((List.getElem_inj h.nd).1 (h2.trans h4.symm))
      rw [if_neg hne]
      exact h.dat j u q hk hq
/-- Where a name stands among the first k, or -1. -/
def Where (ns : List Path) (p : Path) (k : Nat) (x : Int) : Prop := (x = -1 ∧ ∀ j, j < k → ns[j]? ≠ some p) ∨ ∃ j : Nat, j < k ∧ x = (j : Int) ∧ ns[j]? = some p
theorem Where.start (ns : List Path) (p : Path) : Where ns p 0 (-1) := .inl ⟨rfl, fun _ hj => absurd hj (Nat.not_lt_zero _)⟩
theorem Where.hit {ns : List Path} {p : Path} {k : Nat} (h : ns[k]? = some p) : Where ns p (k + 1) (k : Int) := .inr ⟨k, by omega, rfl, h⟩
theorem Where.miss {ns : List Path} {p q : Path} {k : Nat} {x : Int} (h : Where ns p k x) (hq : ns[k]? = some q) (hn : ¬ q = p) : Where ns p (k + 1) x := by
  rcases h with ⟨h1, h2⟩ | ⟨j, h1, h2, h3⟩
  · refine .inl ⟨h1, fun j hj => ?_⟩
    by_cases e : j = k
    · subst e; rw [hq]; exact fun e => hn (Option.some.inj e)
    · exact h2 j (by omega)
  · exact .inr ⟨j, by omega, h2, h3⟩
theorem Where.none {ns : List Path} {p : Path} (h : Where ns p ns.length (-1)) : p ∉ ns := fun hm => by
  obtain ⟨j, hj⟩ := List.mem_iff_getElem?.1 hm
  rcases h with ⟨-, h2⟩ | ⟨j, -, h2, -⟩
  · exact h2 j (List.getElem?_eq_some_iff.1 hj).1 hj
  · omega
/-- What is read of a calm disk. -/
theorem calm_read {d : DS} {n : Nat} (h : DS.calm d n) {p : Path} (hp : okP p = true) {f : Fil} (hf : get p d.fs = some f) : opens none d p [] = 0 ∧ readb none d p = f.b ∧ begins none d [p] = (0, none, d) := by
  have hb := calm_begins h [p] (by simp [hp])
  have ho : opens none d p [] = 0 := by unfold opens; rw [hb]; simp [hf]
  refine ⟨ho, ?_, hb⟩
  unfold readb
  rw [ho, if_pos rfl, hf]
theorem calm_lists {d : DS} {n : Nat} (h : DS.calm d n) (p : Path) : lists none d p = having p (paths d.fs) ∧ begins none d [] = (0, none, d) := by
  have hb := calm_begins h [] rfl
  refine ⟨?_, hb⟩
  unfold lists
  rw [hb, if_pos rfl]; rfl
theorem having_nil (ps : List Path) : having [] ps = ps := by unfold having; simp
theorem having_take {p : Path} {ps : List Path} {i : Nat} (hi : i < ps.length) : having p (ps.take (i + 1)) = having p (ps.take i) ++ (if p.isPrefixOf ps[i] then [ps[i]] else []) := by
  unfold having
  rw [List.take_add_one, List.filter_append, List.getElem?_eq_getElem hi]
  simp only [Option.toList_some, List.filter_cons, List.filter_nil]
/-- The one that comes next among those that begin so. -/
theorem having_get {p : Path} {ps : List Path} {i : Nat} (hi : i < ps.length) (hp : p.isPrefixOf ps[i] = true) : (having p ps)[(having p (ps.take i)).length]? = some ps[i] := by
  have e : having p ps = having p (ps.take i) ++ (ps[i] :: having p (ps.drop (i + 1))) := by
    have h1 : ps = ps.take i ++ (ps[i] :: ps.drop (i + 1)) := by rw [List.getElem_cons_drop, List.take_append_drop]
    conv => lhs; rw [h1]
    unfold having
    rw [List.filter_append, List.filter_cons, if_pos hp]
  rw [e, List.getElem?_append_right (Nat.le_refl _)]
  simp
theorem paths_up {α : Type} {l : L α} (h : Up l) {i : Nat} (hi : i + 1 < (paths l).length) : bytesBefore (paths l)[i] (paths l)[i + 1] = true := by
  have h2 : (paths l).Pairwise fun a b => bytesBefore a b = true := List.pairwise_map.2 h
  exact List.pairwise_iff_getElem.1 h2 i (i + 1) (by omega) hi (by omega)
theorem less_before : ∀ a b : Path, Op.bytesLess a b = bytesBefore a b
  | [], [] => rfl
  | [], _ :: _ => rfl
  | _ :: _, [] => rfl
  | a :: ra, b :: rb => by unfold Op.bytesLess bytesBefore; rw [less_before ra rb]
/-- Does it begin so? As the program asks. -/
theorem prefix_cases (q p : Path) : (p.isPrefixOf q = true ∧ p.length ≤ q.length ∧ (((bstr q).extract 0 p.length).toList == p) = true) ∨ (p.isPrefixOf q = false ∧ (q.length < p.length ∨ (p.length ≤ q.length ∧ (((bstr q).extract 0 p.length).toList == p) = false))) := by
  have h := Lib.hasPrefix_raw (bstr q) (bstr p)
  have eb : ∀ p : Path, (bstr p).data.toList = p := fun p => by unfold bstr; simp
  have el : (bstr p).toList = p := bstr_toList p
  rw [bstr_size, bstr_size, eb, eb, el] at h
  unfold Lib.hasPrefix at h
  cases hp : p.isPrefixOf q with
  | true =>
    rw [hp] at h
    simp only [Bool.and_eq_true, decide_eq_true_eq] at h
    exact .inl ⟨rfl, h⟩
  | false =>
    rw [hp] at h
    refine .inr ⟨rfl, ?_⟩
    by_cases hl : p.length ≤ q.length
    · refine .inr ⟨hl, ?_⟩
      rw [show decide (p.length ≤ q.length) = true from by simpa using hl, Bool.true_and] at h
      exact h
    · exact .inl (by omega)
end Go.Proofs.YthkbbcdnmdjhdaaGreat
