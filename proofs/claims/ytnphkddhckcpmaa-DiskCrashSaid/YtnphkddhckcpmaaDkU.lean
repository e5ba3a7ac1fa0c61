/-
  The sort's contract for rows of strings.
-/
import Derived.Test.YtnphkddhckcpmaaDkT
import Derived.Test.YtnphkddhckcpmaaShelf
namespace Go.Proofs.Ytnphkddhckcpmaa
open Go.RowKit Dk Go.WideShapes Go.ChangeMaps Go.MapKept Go.Sort Go.Shelf
set_option maxRecDepth 100000
set_option maxHeartbeats 4000000

theorem cmp_before : ∀ a b : Path, decide (Lib.compareBytes a b < 0) = bytesBefore a b
  | [], [] => rfl
  | [], _ :: _ => rfl
  | _ :: _, [] => rfl
  | a :: ra, b :: rb => by
    have ih := cmp_before ra rb
    unfold Lib.compareBytes bytesBefore
    rw [← ih]
    by_cases h1 : a < b
    · simp [h1]
    · by_cases h2 : b < a
      · have h3 : ¬ a = b := fun e => by rw [e] at h2; exact absurd h2 (UInt8.lt_irrefl _)
        simp [h1, h2, h3]
      · have h3 : a = b := UInt8.le_antisymm (UInt8.not_lt.1 h2) (UInt8.not_lt.1 h1)
        simp [h3]
def penc (p : Path) : Value := .string (bstr p)
theorem lt_cmp : ltOf Lib.compareBytes = bytesBefore := by
  funext a b; exact cmp_before a b
theorem swo_path : SWO (ltOf Lib.compareBytes) := by
  rw [lt_cmp]
  refine ⟨WideAt.bytes_irrefl, fun x y z h1 h2 => WideShapes.bytes_trans _ _ _ h1 h2, fun x y z h1 h2 => ?_⟩
  cases h3 : bytesBefore x z with
  | false => rfl
  | true =>
    by_cases e : x = y
    · subst e; rw [h3] at h2; cases h2
    · rcases WideAt.bytes_total x y e with h | h
      · rw [h] at h1; cases h1
      · rw [WideShapes.bytes_trans _ _ _ h h3] at h2; cases h2
theorem tot_path (x y : Path) (h1 : ltOf Lib.compareBytes x y = false) (h2 : ltOf Lib.compareBytes y x = false) : x = y := by
  rw [lt_cmp] at h1 h2
  by_cases e : x = y
  · exact e
  · rcases WideAt.bytes_total x y e with h | h
    · rw [h] at h1; cases h1
    · rw [h] at h2; cases h2
theorem cmp_reads (blk off size : Nat) (w : World) : CmpReads Try.prog 41 #[] penc Lib.compareBytes blk off size w := fun m os dk _ x y => by
  have h := Try.strings_Compare (bstr x) (bstr y) (sortWorld penc w blk off m dk os)
  have eb : ∀ p : Path, (bstr p).data.toList = p := fun p => by unfold bstr; simp
  rw [eb, eb] at h
  exact h.mono fun e w' ⟨h1, h2⟩ => ⟨h1, 0, h2⟩
theorem sort_ok : SortOk := by
  intro w B v ps ho hl
  rcases ho.forms with ⟨rfl, hnil⟩ | ⟨g, cap, cur, rfl, hb, hr, hlc, hs, ht, hm⟩
  · have hps : ps = [] := by simpa [pvs] using hnil
    subst hps
    exact (AnyF.slices_SortFunc_none (P := Try.prog) (ρ := Try.sortL_ren) { Try.sortL with } none 0 (.func (.func 41) #[] #[]) w).mono fun e w' ⟨h1, h2⟩ => by
      subst h2
      have e0 : pvs (sortp []) = [] := by simp [sortp, pvs]
      rw [e0]
      exact ⟨h1, Own.nil _ _ _, Chg.refl _ _⟩
  · have hpl : (pvs ps).length = ps.toArray.size := by simp [pvs]
    have hcur : ∀ j, j < ps.length → cur[j]? = some (penc ps[j]!) := fun j hj => by
      have h1 : (List.take (pvs ps).length cur.toList)[j]? = (pvs ps)[j]? := by rw [ht]
      rw [List.getElem?_take, if_pos (by simpa [pvs] using hj), Array.getElem?_toList] at h1
      rw [h1]
      simp [pvs, penc, hj]
    have hH : Holds penc w g 0 ps.toArray := fun j hj => by
      have hj' : j < ps.length := by simpa using hj
      refine ⟨?_, hr.unfrozen _⟩
      have := hr.cell (hcur j hj')
      rw [Nat.zero_add]
      simpa using this
    have hsz : (ps.toArray : Array Path).size < 4611686018427387904 := by simp; omega
    have eg : ∀ args w, (callFunc 41 args).run Try.prog w = .ok (.enter 41 args) w := enters_of Try.func41 (by kernel_rfl) rfl
    have hS := Any.slices_SortFunc_total Try.sortL penc (fun _ => rfl) Lib.compareBytes swo_path 41 #[] g 0 cap ps.toArray w eg (cmp_reads g 0 ps.toArray.size w).lays hH hr.lt hsz tot_path
    rw [lt_cmp] at hS
    rw [← hpl] at hS
    refine hS.mono ?_
    rintro e w' ⟨h1, n, os, rfl⟩
    have hsp : (List.mergeSort (Array.toList ps.toArray) fun x y => !bytesBefore y x) = sortp ps := rfl
    rw [hsp]
    have hsl : (sortp ps).length = ps.length := (List.mergeSort_perm _ _).length_eq
    have hrow : Row (sortWorld penc w g 0 n (sortp ps).toArray os) g 9 (putCells penc 0 (sortp ps).toArray cur) := by
      have hlt := hr.lt
      unfold Row at hr ⊢
      show (w.heap.modify g (onCells (putCells penc 0 (sortp ps).toArray)) ++ os)[g]? = _
      rw [Array.getElem?_append_left (by simpa using hlt), Array.getElem?_modify, if_pos rfl, hr]; rfl
    have hlen2 : (pvs ps).length = (pvs (sortp ps)).length := by simp [pvs, hsl]
    refine ⟨h1, ?_, ⟨rfl, rfl, rfl, ?_, fun b hb hn => ?_⟩⟩
    · rw [hlen2] at hlc ⊢
      refine Own.mk hb hrow hlc (by simp [putCells, hs]) ?_ hm
      apply List.ext_getElem?
      intro j
      rw [List.getElem?_take]
      by_cases c : j < (pvs (sortp ps)).length
      · have c2 : j < (sortp ps).length := by simpa [pvs] using c
        have c3 : j < cur.size := by omega
        rw [if_pos c, Array.getElem?_toList]
        simp [putCells, c2, c3, pvs, penc]
      · rw [if_neg c, List.getElem?_eq_none (by omega)]
    · show w.heap.size ≤ (w.heap.modify g (onCells (putCells penc 0 (sortp ps).toArray)) ++ os).size
      simp
    · have hg : g ≠ b := fun e => hn (by rw [e]; rfl)
      show (w.heap.modify g (onCells (putCells penc 0 (sortp ps).toArray)) ++ os)[b]? = _
      rw [Array.getElem?_append_left (by simpa using hb), Array.getElem?_modify, if_neg hg]
end Go.Proofs.Ytnphkddhckcpmaa
