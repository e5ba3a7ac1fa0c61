/-
  List of a disk that is off.
-/
import Derived.Test.YtnphkddhckcpmaaDkN
namespace Go.Proofs.Ytnphkddhckcpmaa
open Go.RowKit Dk Go.WideShapes Go.ChangeMaps Go.MapKept
set_option maxRecDepth 100000
set_option maxHeartbeats 4000000
attribute [local go_sem] min_int2 max_int2 bstr_toList

theorem list_off (s : Nat) (d : DS) (S : Nat → Prop) (p : Path) (w : World) (h : SimAt w s none d S) (ho : d.off = true) :
    Calls Try.prog 26 #[.pointer (some ⟨s, 0, none⟩), .string (bstr p)] w fun e w' => e = .returned (.tuple #[.slice none 0 0, .int .i64 10]) ∧ SimAt w' s none d S ∧ Chg S w w' := by
  obtain ⟨x, hx⟩ : ∃ x, x = Row.new w 9 #[.string (bstr p)] := ⟨_, rfl⟩
  clear hx x
  have x1 : Ext w (w.alloc (.cells #[.string (bstr p)] 9)) := (Ext.refl w).alloc (Nat.le_refl _) _
  have X1 := Lib.hid (And.intro x1 (h.ext x1))
  have hb : begins none d [] = (10, none, d) := by unfold begins; rw [ho]; rfl
  clear h ho x1
  go_enter Try.func26, Try.ntmps26
  go_wp2_with fail
  obtain ⟨m, es, h, hS1, hS2, hS3⟩ := X1.out.2
  have HS := Lib.hid (And.intro hS1 (And.intro hS2 hS3))
  clear hS1 hS2 hS3
  refine (begin_any s m none none es d [] _ _ h trivial (by decide) (by simp) (by simp) (Own.nil _ _ _)).mono ?_
  rw [hb]; rintro e w2 ⟨rfl, -, h2, hg, -⟩
  have HN := Lib.hid (And.intro (show SimAt w2 s none d S from ⟨m, es, h2, HS.out.1, fun b hb => Nat.lt_of_lt_of_le (HS.out.2.1 b hb) hg.size, HS.out.2.2⟩) ((Chg.of_ext X1.out.1 S).trans (hg.mono fun b _ hb => by
    rcases hb with rfl | hb
    · exact HS.out.1 _ (.inl rfl)
    · cases hb)))
  clear h h2 hg hb
  go_wp2_with fail
  go_ret2
  exact ⟨rfl, HN.out.1, HN.out.2⟩
end Go.Proofs.Ytnphkddhckcpmaa
