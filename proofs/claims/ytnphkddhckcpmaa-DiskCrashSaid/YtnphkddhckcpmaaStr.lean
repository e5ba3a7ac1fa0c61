/-
  Bytes turned to a string: the law for the walk. No statement about the program.
-/
import Derived.Test.YtnphkddhckcpmaaMem
namespace Go.Proofs.Ytnphkddhckcpmaa
open Go.RowKit

/-! ### bytes to a string -/
/-- The string of these bytes. -/
def bstr (l : List UInt8) : ByteArray := ⟨l.toArray⟩
theorem bstr_inj {l k : List UInt8} : bstr l = bstr k ↔ l = k := by
  unfold bstr
  constructor
  · intro h
    injection h with h
    simpa using h
  · rintro rfl; rfl
theorem bstr_toList (l : List UInt8) : (bstr l).toList = l := by
  rw [ByteArray.toList_eq]; rfl
theorem bstr_size (l : List UInt8) : (bstr l).size = l.length := rfl
theorem foldl_push (l : List UInt8) : ∀ s : ByteArray, (l.map fun x => ((x.toNat : Nat) : Int)).foldl (fun r n => r.push (UInt8.ofNat n.toNat)) s = ⟨s.data ++ l.toArray⟩ := by
  induction l with
  | nil => intro s; simp
  | cons x l ih =>
    intro s
    rw [List.map_cons, List.foldl_cons, ih]
    simp [ByteArray.push]
theorem run_tostr {P : Program} {w : World} {src dst e : TypeId} {v : Value} {l : List UInt8}
    (hs : P.underlying src = some (.slice e)) (he : P.underlying e = some (.int .u8)) (hd : P.underlying dst = some .string) (h : Bytes w v l) :
    (convert src dst v).run P w = .ok (.string (bstr l)) w := by
  obtain ⟨a, cap, rfl, hl, hn, hc⟩ := h
  rw [run_convert_bytes_string w src dst e a _ cap hs he hd]
  cases a with
  | none =>
    have : l = [] := by
      cases l with
      | nil => rfl
      | cons u l => obtain ⟨ad, h, _⟩ := hc 0 (bv u) rfl; cases h
    subst this
    rfl
  | some ad =>
    have hld := run_firstCells_some (P := P) w 1 (bvs l).length ad (bvs l).length cap (bvs l) (by simp)
      (fun j u hu => by obtain ⟨ad', e1, e2⟩ := hc j u hu; obtain rfl := Option.some.inj e1; exact e2)
    have e1 : bvs l = (l.map fun x => ((x.toNat : Nat) : Int)).map (Value.int .u8) := by rw [List.map_map]; rfl
    have hld2 : (loadCells ad (bvs l).length).run P w = .ok ((l.map fun x => ((x.toNat : Nat) : Int)).map (Value.int .u8)).toArray w := by
      rw [← e1]
      simpa [Builtin.firstCells] using hld
    rw [run_bytesToString w ad _ cap _ hld2, foldl_push]
    congr 3
    simp
theorem wpList_tostr {P : Program} {w : World} {ops : Array Oper} {rest : List Oper} {o : Oper} {a : Act} {Q : Exit → Act → World → Prop} (hg : o.guard = none) (x : Operand) (src dst e : TypeId) (ho : o.op = .convert src dst x)
    (hs : P.underlying src = some (.slice e)) (he : P.underlying e = some (.int .u8)) (hd : P.underlying dst = some .string) {v : Value} {l : List UInt8} (hv : a.eval x = v) (h : Bytes w v l)
    (hK : wpList P ops Q rest (a.put o.dst (.string (bstr l))) w) : wpList P ops Q (o :: rest) a w := by
  refine wpList_plain hg fun K hK' => ?_
  unfold Oper.wp execOp
  simp only [ho, Sem.run_bind, Sem.run_pure, Result.andThen_ok, hv, run_tostr hs he hd h]
  exact hK' _ _ hK

end Go.Proofs.Ytnphkddhckcpmaa
