/-
  Files: the walk, over what the sort does (SortOk).
-/
import Derived.Test.YtnphkddhckcpmaaDkR
namespace Go.Proofs.Ytnphkddhckcpmaa
open Go.RowKit Dk Go.WideShapes Go.ChangeMaps Go.MapKept
set_option maxRecDepth 100000
set_option maxHeartbeats 4000000
attribute [local go_sem] min_int2 max_int2 bstr_toList

theorem make_cap' {P : Program} (t e : TypeId) (z : Value) (bytes n c : Nat) (ht : P.underlying t = some (.slice e))
    (hi : (P.info? e).map (fun i => (i.zero, i.size, i.bytes)) = some (some z, 1, bytes)) (hz1 : z.cells = #[z]) (hnc : n ≤ c) (hb : bytes * c ≤ 281474976710656) (hn : c ≤ 9223372036854775807) (w : World) :
    (Instr.makeSlice t (.int .i64 (n : Int)) (.int .i64 (c : Int))).run P w = .ok (.slice (some ⟨w.heap.size, 0, none⟩) n c) (w.alloc (.cells (Array.replicate c z) e)) := by
  obtain ⟨i, hi, hz, hs, hby⟩ := info_parts hi
  have hb' : (i.bytes : Int) * (c : Int) ≤ 281474976710656 := by
    have h : ((i.bytes * c : Nat) : Int) ≤ 281474976710656 := by rw [hby]; omega
    rwa [Int.natCast_mul] at h
  rw [run_make (P := P) w t e i z ht hi hz .i64 .i64 n c (by omega) (by omega) hb' (by omega)]
  congr 4
  rw [hz1, hs, Nat.mul_one, Int.toNat_natCast]
  apply Array.ext
  · simp [madeCells]
  · intro k h1 h2
    simp [madeCells, Nat.mod_one]
/-- The paths of a disk's files. -/
def paths {α : Type} (l : L α) : List Path := l.map (·.1)
theorem came_perm {α : Type} {left : Lit → Bool} {p : Path} {f : α} : ∀ {l : L α}, Up l → get p l = some f → left (.string p) = true → (paths (came (strike left p) l)).Perm (paths (came left l) ++ [p])
  | [], _, h, _ => by cases h
  | e :: l, hu, hg, hl => by
    rw [get_cons] at hg
    rw [came_cons, came_cons]
    by_cases he : e.1 = p
    · have hn : ∀ x ∈ l, x.1 ≠ p := fun x hx => by rw [← he]; exact (before_ne (hu.head _ hx)).symm
      have s1 : strike left p (.string e.1) = false := by unfold strike; rw [same_str, he]; simp
      rw [s1, if_neg (by simp), he, hl, if_pos rfl, came_strike_ne hn]
      show (e.1 :: paths (came left l)).Perm _
      rw [he]
      exact List.perm_append_comm (l₁ := [p])
    · rw [if_neg he] at hg
      have ih := came_perm hu.tail hg hl
      have s1 : strike left p (.string e.1) = left (.string e.1) := by
        unfold strike
        have : ((Lit.string e.1).sameKey (.string p)) = false := by rw [same_str]; simpa using he
        rw [this]; simp
      rw [s1]
      cases left (.string e.1) with
      | true => rw [if_pos rfl, if_pos rfl]; exact ih
      | false => rw [if_neg (by simp), if_neg (by simp)]; exact ih.cons e.1
theorem came_len {α : Type} {left : Lit → Bool} {l : L α} : (came left l).length ≤ l.length := List.length_filter_le _ _
/-- The row of paths as the sort leaves it. -/
def sortp (ps : List Path) : List Path := ps.mergeSort fun x y => !bytesBefore y x
theorem before_total (a b : Path) : (!bytesBefore b a || !bytesBefore a b) = true := by
  cases h1 : bytesBefore b a with
  | false => rfl
  | true =>
    cases h2 : bytesBefore a b with
    | false => rfl
    | true => rw [before_not h1] at h2; cases h2
/-- What sorting a row of strings of one's own does. -/
def SortOk : Prop := ∀ (w : World) (B : Nat) (v : Value) (ps : List Path), Own w B 9 v (pvs ps) → ps.length ≤ 5000 → Calls Try.prog 40 #[v, .func (.func 41) #[] #[]] w fun e w' =>
  e = .returned (.tuple #[]) ∧ Own w' B 9 v (pvs (sortp ps)) ∧ Chg (fun b => v.ownBlock = some b) w w'
end Go.Proofs.Ytnphkddhckcpmaa
