/-
  bytes.Clone; Write.
-/
import Derived.Test.YtnphkddhckcpmaaDkE
import Derived.Deep.RegionHeld3
namespace Go.Proofs.Ytnphkddhckcpmaa
open Go.RowKit Dk Go.WideShapes Go.ChangeMaps Go.MapKept
set_option maxRecDepth 100000
set_option maxHeartbeats 4000000
attribute [local go_sem] min_int2 max_int2 bstr_toList

theorem nil_bytes : ∀ (w : World) (a : Option Addr) (n c n' c' : Nat), (binOp .eql 30 (.slice a n c) (.slice none n' c')).run Try.prog w = .ok (.bool a.isNone) w := fun w a n c n' c' => Lib.run_eql_slice_nil w _ _ a n c n' c' Try.underlying30
theorem Bytes.slice {w : World} {v : Value} {l : List UInt8} (h : Bytes w v l) : ∃ a c, v = .slice a l.length c := by
  obtain ⟨a, c, e, -⟩ := h
  exact ⟨a, c, by rw [e, bvs_len]⟩
theorem bclone_own (v : Value) (l : List UInt8) (hl : l.length ≤ 140737488351232) (w : World) (hb : Bytes w v l) :
    Calls Try.prog 38 #[v] w fun e w' => ∃ u, e = .returned u ∧ Own w' w.heap.size 5 u (bvs l) ∧ Ext w w' := by
  obtain ⟨a, c, rfl⟩ := hb.slice
  have q := nil_bytes
  cases a with
  | none =>
    have hl0 : l = [] := by
      obtain ⟨a', cap', e, h1, h2, _⟩ := hb
      simp only [Value.slice.injEq] at e
      obtain ⟨rfl, e2, rfl⟩ := e
      have := h2 rfl
      rw [bvs_len] at h1
      exact List.length_eq_zero_iff.1 (by omega)
    subst hl0
    go_enter Try.func38, Try.ntmps38
    go_wp2
    go_ret
    exact ⟨_, rfl, Own.nil _ _ _, Ext.refl _⟩
  | some ad =>
    have HB := Lib.hid hb
    clear hb
    have o0 : Own (w.alloc (.cells #[] 5)) w.heap.size 5 (.slice (some ⟨w.heap.size, 0, none⟩) 0 0) (bvs []) := Own.new w w.heap.size 5 #[] (Nat.le_refl _) (by decide)
    have y3 : Ext w (w.alloc (.cells #[] 5)) := (Ext.refl w).alloc (Nat.le_refl _) _
    go_enter Try.func38, Try.ntmps38
    go_wp2_with (at_builtin; refine list_of_wp rfl fun K hK => wp_appx _ _ 30 30 5 (.int .u8 0) 1 rfl Try.underlying30 info_u8' rfl rfl o0 rfl (Cells.src Try.underlying30 (HB.out.ext y3) (bvs_one _)) (by rw [bvs_len, bvs_len]; simp [maxLen]; omega) (by rw [bvs_len, bvs_len]; simp; omega) y3.size l.length (by rw [bvs_len, bvs_len]; simp) fun ad4 c4 w4 ha4 => hK _ _ ?_)
    go_ret
    exact ⟨_, rfl, ha4.1, Below.grown y3 ha4.2.1 y3.size (fun k hk => by have hk' : some w.heap.size = some k := hk; injection hk' with hk'; omega)⟩
/-- Cells of bytes are none of a disk's own, nor of a fuse's. -/
theorem Bytes.keep {S : Nat → Prop} {w w' : World} {v : Value} {l : List UInt8} (h : Bytes w v l) (k : Chg S w w') (hS : ∀ b o x, S b → w.cell? ⟨b, o, none⟩ ≠ some (bv x)) : Bytes w' v l := by
  obtain ⟨a, cap, e, h1, h2, h3⟩ := h
  refine ⟨a, cap, e, h1, h2, fun j u hu => ?_⟩
  obtain ⟨ad, e1, e2⟩ := h3 j u hu
  refine ⟨ad, e1, k.cell e2 fun hs => ?_⟩
  obtain ⟨x, hx⟩ : ∃ x, u = bv x := by
    obtain ⟨x, -, hx⟩ := List.mem_map.1 (List.mem_of_getElem? hu)
    exact ⟨x, hx.symm⟩
  have hp := addr_plain e2
  rw [hp, hx] at e2
  exact hS _ _ x hs e2
theorem Raw.nobytes {w : World} {s m : Nat} {fp : Option Nat} {es : L Ent} {d : DS} {z : Option FS} (h : Raw w s fp m es d) (hz : FzAt w fp z) (b o : Nat) (x : UInt8) (hb : b = s ∨ fp = some b) : w.cell? ⟨b, o, none⟩ ≠ some (bv x) := by
  intro hc
  rcases hb with rfl | rfl
  · have hr := h.row
    unfold Row at hr
    simp only [World.cell?, hr] at hc
    have : (#[.int .i64 (d.most : Int), fptr fp, .map (some m), .bool d.off, .int .i64 (d.bad : Int)] : Array Value)[o]? = some (bv x) := by simpa using hc
    match o, this with
    | 0, h => simp [bv] at h
    | 1, h => simp [bv, fptr] at h
    | 2, h => simp [bv] at h
    | 3, h => simp [bv] at h
    | 4, h => simp [bv] at h
    | n + 5, h => simp at h
  · cases z with
    | none => exact hz
    | some z =>
      have hr := hz.1
      unfold Row at hr
      simp only [World.cell?, hr] at hc
      have : (#[.int .i64 z.n, .int .i64 (z.ops : Int), .bool z.blown] : Array Value)[o]? = some (bv x) := by simpa using hc
      match o, this with
      | 0, h => simp [bv] at h
      | 1, h => simp [bv] at h
      | 2, h => simp [bv] at h
      | n + 3, h => simp at h
end Go.Proofs.Ytnphkddhckcpmaa
