/-
  What befalls one of an array's disks, or its fuse.
-/
import Derived.Test.YthkbbcdnmdjhdaaGreatArG
import Derived.Test.YthkbbcdnmdjhdaaGreatArKp
/-! XArK: What befalls one of an array's disks, or its fuse. -/
namespace Go.Proofs.YthkbbcdnmdjhdaaGreat
open Go.RowKit Dk
set_option maxRecDepth 100000
set_option maxHeartbeats 4000000
section
variable {w0 w : World} {a : AA} {fp : Option Nat} {s t : AS} {Y : Thing} {P : PA} {i sa n : Nat}
theorem Lab.aturn {P : Program} {f : FuncId} {args : Array Value} {e0 : Ending} {F : DS → DS} (hL : Lab w0 w (memA a fp s Y)) (hk : a.Ok s) (hs : a.ss[i]? = some sa)
    (h : ∀ (Y' : Thing), Lab w0 w ((simT sa fp (s.ds.getD i dz)).star Y') → Calls P f args w fun e w' => e = e0 ∧ Lab w0 w' ((simT sa fp (F (s.ds.getD i dz))).star Y')) :
    Calls P f args w fun e w' => e = e0 ∧ Lab w0 w' (memA a fp (s.on i F) Y) := by
  obtain ⟨d, h1, h2, h3⟩ := hk.sd hs
  have hL1 : Lab w0 w ((arrT a).star ((fuseT fp s.z).star ((simsT fp a.ss s.ds).star Y))) := hL
  refine (h _ (by rw [h2]; exact (hL1.third'.out1 hs h1).swap)).mono ?_
  rintro e w' ⟨k1, k2⟩
  exact ⟨k1, (k2.swap.back1 hs h3).third⟩
theorem Lab.acrash (hL : Lab w0 w (memA a fp s Y)) (hk : a.Ok s) (hA : ASnd s n) (hs : a.ss[i]? = some sa) (k : Int) (hb : -9223372036854775808 ≤ k ∧ k ≤ 9223372036854775807) :
    Calls Tryz.prog 64 #[.pointer (some ⟨sa, 0, none⟩), .int .i64 k] w fun e w' => e = .returned (.tuple #[]) ∧ Lab w0 w' (memA a fp (s.on i (DS.crash k)) Y) :=
  hL.aturn hk hs fun _ h => h.crash k hb (Nat.le_trans (hA.getD i).bytes (by decide))
theorem Lab.awipe (hL : Lab w0 w (memA a fp s Y)) (hk : a.Ok s) (hs : a.ss[i]? = some sa) :
    Calls Tryz.prog 111 #[.pointer (some ⟨sa, 0, none⟩)] w fun e w' => e = .returned (.tuple #[]) ∧ Lab w0 w' (memA a fp (s.on i fun d => { d with fs := [] }) Y) :=
  hL.aturn hk hs fun _ h => h.wipe
theorem Lab.aoffline (hL : Lab w0 w (memA a fp s Y)) (hk : a.Ok s) (hs : a.ss[i]? = some sa) (b : Bool) :
    Calls Tryz.prog 18 #[.pointer (some ⟨sa, 0, none⟩), .bool b] w fun e w' => e = .returned (.tuple #[]) ∧ Lab w0 w' (memA a fp (s.on i fun d => { d with off := b }) Y) :=
  hL.aturn hk hs fun _ h => h.offline b
theorem Lab.afail (hL : Lab w0 w (memA a fp s Y)) (hk : a.Ok s) (hs : a.ss[i]? = some sa) (m : Int) (hm : m ≤ 9223372036854775807) :
    Calls Tryz.prog 13 #[.pointer (some ⟨sa, 0, none⟩), .int .i64 m] w fun e w' => e = .returned (.tuple #[]) ∧ Lab w0 w' (memA a fp (s.on i fun d => { d with bad := m.toNat }) Y) :=
  hL.aturn hk hs fun _ h => h.fail m hm
theorem Lab.aflip (hL : Lab w0 w (memA a fp s Y)) (hk : a.Ok s) (hA : ASnd s n) (hs : a.ss[i]? = some sa) (p : Path) (at_ : Int) (hb : -9223372036854775808 ≤ at_ ∧ at_ ≤ 9223372036854775807) (m : Nat) (hp : p.length ≤ maxLen) :
    Calls Tryz.prog 112 #[.pointer (some ⟨sa, 0, none⟩), .string (bstr p), .int .i64 at_, .int .u32 (m : Int)] w fun e w' => e = .returned (.bool (flipok p at_ (s.ds.getD i dz).fs)) ∧ Lab w0 w' (memA a fp (s.on i (dflip p at_ m)) Y) :=
  hL.aturn hk hs fun _ h => h.flip' p at_ hb m hp (Nat.le_trans (hA.getD i).bytes (by decide))
theorem Lab.asim (hL : Lab w0 w (memA a fp s Y)) (hk : a.Ok s) (hs : a.ss[i]? = some sa) : Lab w0 w (simT sa fp (s.ds.getD i dz)) := by
  obtain ⟨d, h1, h2, h3⟩ := hk.sd hs
  have hL1 : Lab w0 w ((arrT a).star ((fuseT fp s.z).star ((simsT fp a.ss s.ds).star Y))) := hL
  rw [h2]
  exact (hL1.third'.out1 hs h1).right.left
theorem Lab.alook (hL : Lab w0 w (memA a fp s Y)) (hk : a.Ok s) (hA : ASnd s n) (hs : a.ss[i]? = some sa) (p : Path) (hp : p.length ≤ maxLen) :
    Calls Tryz.prog 47 #[.pointer (some ⟨sa, 0, none⟩), .string (bstr p)] w fun e w' => ∃ u, e = .returned (.tuple #[u, .bool (match Dk.get p (s.ds.getD i dz).fs with | some f => f.sure | none => false), .bool (Dk.get p (s.ds.getD i dz).fs).isSome]) ∧ Lab w0 w' ((ownT 5 u (bvs (match Dk.get p (s.ds.getD i dz).fs with | some f => f.b | none => []))).star (memA a fp s Y)) :=
  Lab.look hL (hL.asim hk hs) p hp (Nat.le_trans (hA.getD i).bytes (by decide))
theorem Lab.afset {f : Nat} {zz : FS} {ds : List DS} (hL : Lab w0 w (memA a (some f) ⟨some zz, ds⟩ Y)) (n : Int) (hn : -9223372036854775808 ≤ n ∧ n ≤ 9223372036854775807) :
    Calls Tryz.prog 24 #[.pointer (some ⟨f, 0, none⟩), .int .i64 n] w fun e w' => e = .returned (.tuple #[]) ∧ Lab w0 w' (memA a (some f) ⟨some ⟨n, 0, false⟩, ds⟩ Y) := by
  have hL1 : Lab w0 w ((arrT a).star ((fuseT (some f) (some zz)).star ((simsT (some f) a.ss ds).star Y))) := hL
  refine (hL1.swap.fset n hn).mono ?_
  rintro e w' ⟨k1, k2⟩
  exact ⟨k1, k2.swap⟩
end
end Go.Proofs.YthkbbcdnmdjhdaaGreat
