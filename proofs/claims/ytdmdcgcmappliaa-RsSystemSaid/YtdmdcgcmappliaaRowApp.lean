/-
  append of one row: the law for a walk.
-/
import Derived.Test.YtdmdcgcmappliaaRowsOwn
namespace Go.Proofs.Ytdmdcgcmappliaa
open Go.RowKit
set_option maxRecDepth 100000
set_option maxHeartbeats 1000000

theorem one_slice (ua : Option Addr) (n uc : Nat) : ∀ u ∈ [Value.slice ua n uc], u.oneCell' = true := fun u hu => by rw [List.mem_singleton.1 hu]; rfl
section
variable {W : World} {ops : Array Oper} {rest : List Oper} {o : Oper} {a : Act} {Q : Exit → Act → World → Prop} {K : Act → World → Prop}
theorem wp_row1 (s x : Operand) (t : TypeId) (ho : o.op = .call { callee := .builtin .append, args := #[s, x], argTypes := #[t, t] }) (ht : Try.prog.underlying t = some (.slice 34))
    {B : Nat} {xa ua : Option Addr} {i xc n uc : Nat} {ls : List (List UInt8)} {l : List UInt8} {q : Nat} (hs : a.eval s = .slice xa i xc) (hx : a.eval x = .slice (some ⟨q, 0, none⟩) 1 1) (hq : q = W.heap.size)
    (hR : RowsOwn W B (.slice xa i xc) ls) (hu : Bytes W (.slice ua n uc) l) (hof : OffB (Value.slice xa i xc).ownBlock (.slice ua n uc) l) (hB : B ≤ W.heap.size) (hlen : ls.length ≤ 70000)
    (hK : ∀ ad c w', RowsOwn w' B (.slice ad (i + 1) c) (ls ++ [l]) → Below B W w' → K (a.put o.dst (.slice ad (i + 1) c)) w') : Oper.wp Try.prog o a (W.alloc (.cells #[.slice ua n uc] 34)) K Q := by
  subst hq
  have x6 : Ext W (W.alloc (.cells #[.slice ua n uc] 34)) := (Ext.refl W).alloc (Nat.le_refl _) _
  have hsrc : Cells (W.alloc (.cells #[.slice ua n uc] 34)) (.slice (some ⟨W.heap.size, 0, none⟩) 1 1) [.slice ua n uc] := (Own.new W 0 34 #[.slice ua n uc] (Nat.zero_le _) (by unfold maxLen; simp)).cells
  obtain ⟨vs, o1, o2, o3⟩ := hR.ext x6
  obtain ⟨a', c', e⟩ := o1.slice
  simp only [Value.slice.injEq] at e
  obtain ⟨rfl, rfl, rfl⟩ := e
  refine wp_appx s x t t 34 (.slice none 0 0) 24 ho ht info_bytes rfl hs o1 hx (Cells.src ht hsrc (one_slice _ _ _)) (by simp [maxLen]; omega) (by simp; omega) (Nat.le_trans hB x6.size) (vs.length + 1) (by simp) fun ad c w' ha => hK ad c w' ?_ ?_
  · exact RowsOwn.app o2 o3 (hu.ext x6) hof ha
  · exact Below.grown (Below.mono x6 hB) ha.2.1 (Nat.le_trans hB x6.size) (fun k hk => o1.block k hk)
end
end Go.Proofs.Ytdmdcgcmappliaa
