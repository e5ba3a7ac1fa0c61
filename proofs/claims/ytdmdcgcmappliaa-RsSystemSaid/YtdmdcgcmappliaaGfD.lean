/-
  Contracts of MulAdd: the table's and the reference's: a new row, nothing that was there is changed.
-/
import Derived.Test.YtdmdcgcmappliaaGfC
import Derived.Test.YtdmdcgcmappliaaGfVec
import Derived.Test.YtdmdcgcmappliaaMem
import Derived.Deep.RegionWith
namespace Go.Proofs.Ytdmdcgcmappliaa
open Go.RowKit Gf
set_option maxRecDepth 100000
set_option maxHeartbeats 1000000
attribute [local go_sem] min_int2 max_int2

theorem g8_bits (x y c : UInt8) : bits .xor .u8 (x.toNat : Int) ((gmul y.toNat c.toNat : Nat) : Int) = ((x ^^^ g8 y c).toNat : Int) := by
  rw [u8_xor_nat _ _ (u8lt x) (gmul_lt _ _ (u8lt y)), UInt8.toNat_xor, g8_toNat]
theorem bvs_set (l : List UInt8) (i : Nat) (x : UInt8) : (bvs l).set i (bv x) = bvs (l.set i x) := by
  simp [List.map_set]

theorem muladd_empty (b : Nat) (a : Option Addr) (cap : Nat) (s : List UInt8) (c : UInt8) (sv : Value) (w : World) (h : TableAt w b) (hd : Bytes w (.slice a 0 cap) []) (hs : Bytes w sv s) :
    Calls Try.prog 49 #[.pointer (some ⟨b, 0, none⟩), .slice a 0 cap, sv, .int .u8 c.toNat] w fun e w' => e = .returned (.slice none 0 0) ∧ Ext w w' := by
  obtain ⟨a2, cap2, rfl, -, -, -⟩ := hs
  have hh := Lib.hid h
  have hdd := Lib.hid hd
  clear h hd
  go_enter Try.func49, Try.ntmps49
  go_wp2_with (first | (go_at_call 69; refine (made_any b _ hh.out).mono ?_; rintro e w' ⟨rfl, rfl⟩) | (at_builtin; refine wpList_app_none rfl _ _ 34 5 (.int .u8 0) 1 rfl Try.underlying34 info_u8 rfl rfl rfl hdd.out ?_; intro w1 hg1))
  go_rounds 1
  go_ret
  exact ⟨rfl, Ext.grown hg1 (fun k h => by cases h)⟩

theorem muladd_full (b : Nat) (d s : List UInt8) (c : UInt8) (db dof dcap : Nat) (sa : Option Addr) (scap : Nat) (w : World) (h : TableAt w b) (hd0 : 0 < d.length) (hdl : d.length ≤ 140737488351232) (hsl : s.length ≤ 140737488351232)
    (hd : Bytes w (.slice (some ⟨db, dof, none⟩) d.length dcap) d) (hs : Bytes w (.slice sa s.length scap) s) :
    Calls Try.prog 49 #[.pointer (some ⟨b, 0, none⟩), .slice (some ⟨db, dof, none⟩) d.length dcap, .slice sa s.length scap, .int .u8 c.toNat] w
      fun e w' => ∃ v, e = .returned v ∧ Own w' w.heap.size 5 v (bvs (mad d s c)) ∧ Ext w w' := by
  have hh := Lib.hid h
  have hdd := Lib.hid hd
  have hss := Lib.hid hs
  have hsize := bvs_len d
  clear h hd hs
  go_enter Try.func49, Try.ntmps49
  go_wp2_with (first | (go_at_call 69; refine (made_any b _ hh.out).mono ?_; rintro e w' ⟨rfl, rfl⟩) | (at_builtin; refine wpList_app_some rfl _ _ 34 5 (.int .u8 0) 1 rfl Try.underlying34 info_u8 rfl rfl (Own.nil w w.heap.size _) rfl hdd.out (bvs_one _) ?_ ?_ (Nat.le_refl _) d.length ?_ (bvs d) rfl hd0 ?_))
  · simp [maxLen]; omega
  · simp; omega
  · simp
  intro g gc w1 hown hgr
  have hB1 : Ext w w1 := Ext.grown hgr (fun k h => by cases h)
  clear hgr
  have hO := Lib.hid hown
  clear hown
  go_wp2
  go_loopw [21] (fun v21 wr => ∃ i : Nat, i ≤ d.length ∧ i ≤ s.length ∧ Hid (Own wr w.heap.size 5 (.slice (some ⟨g, 0, none⟩) d.length gc) (bvs (mad d (s.take i) c))) ∧ Below w.heap.size w wr ∧ v21 = .int .i64 i) (fun v21 _ => (d.length - intOf v21).toNat)
  case atStart => exact ⟨0, by omega, by omega, by rw [List.take_zero, mad_nil]; exact hO, hB1, rfl⟩
  case round =>
    obtain ⟨i, hi1, hi2, hOr, hBr, rfl⟩ := hrel
    by_cases hlt : i < d.length ∧ i < s.length
    · obtain ⟨hl1, hl2⟩ := hlt
      have hm := mad_take d s c i hl1 hl2
      have c1 := hOr.out.parts.2.2.2.2.2.1 i (bv d[i]) (by rw [List.getElem?_map, hm.1]; rfl)
      have f1 := hOr.out.parts.2.2.2.2.2.2 i
      have hg1 := hOr.out.parts.2.1
      have hmin : (i : Int) < min (d.length : Int) (s.length : Int) := by omega
      obtain ⟨sb, so, rfl, c2⟩ := (hss.out.ext hBr).at (bvs_get hl2)
      have hm2 := Lib.hid hm.2
      clear hm
      have hT := Lib.hid (hh.out.ext hBr)
      have hgb := g8_bits d[i] s[i] c
      go_wp2
      go_region_with (go_at_call 70; refine (tmul_any b _ _ (u8lt s[i]) (u8lt c) _ (by exact hT.out)).mono ?_; rintro e w' ⟨rfl, rfl⟩)
      all_goals
        go_wp2
        refine ⟨⟨i + 1, by omega, by omega, ?_, (hBr.setCell (p := ⟨g, i, none⟩) hg1 _).drew, by go_num⟩, by simp [intOf]; omega⟩
        have := hOr.out.set i (bv (d[i] ^^^ g8 s[i] c))
        rw [bvs_set, hm2.out] at this
        exact this
    · have hmin : min (d.length : Int) (s.length : Int) ≤ (i : Int) := by omega
      have hO2 := hOr.out
      rw [mad_long d s c i (by omega)] at hO2
      have hO3 := Lib.hid hO2
      clear hO2 hlt hO hOr hsize
      go_wp2
      go_ret
      exact ⟨_, rfl, hO3.out, hBr⟩

/-- MulAdd: a new row. -/
theorem muladd_any (b : Nat) (d s : List UInt8) (c : UInt8) (dv sv : Value) (w : World) (h : TableAt w b) (hdl : d.length ≤ 140737488351232) (hsl : s.length ≤ 140737488351232) (hd : Bytes w dv d) (hs : Bytes w sv s) :
    Calls Try.prog 49 #[.pointer (some ⟨b, 0, none⟩), dv, sv, .int .u8 c.toNat] w
      fun e w' => ∃ v, e = .returned v ∧ Own w' w.heap.size 5 v (bvs (mad d s c)) ∧ Ext w w' := by
  rcases hd.forms with ⟨h0, a, cap, rfl⟩ | ⟨h0, db, dof, dcap, rfl, _⟩
  · have : d = [] := by simpa using h0
    subst this
    refine (muladd_empty b a cap s c sv w h hd hs).mono ?_
    rintro e w' ⟨rfl, hx⟩
    exact ⟨_, rfl, by cases s <;> exact Own.nil _ _ _, hx⟩
  · obtain ⟨sa, scap, e1, k1, k2, k3⟩ := id hs
    have hpos : 0 < d.length := by
      cases d with
      | nil => simp at h0
      | cons x l => simp
    rw [bvs_len s] at e1
    subst e1
    rw [bvs_len d] at hd ⊢
    exact muladd_full b d s c db dof dcap sa scap w h hpos hdl hsl hd hs
end Go.Proofs.Ytdmdcgcmappliaa
