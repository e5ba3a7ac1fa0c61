/-
  The third layer's statements: Small, awake.
-/
import Derived.Test.YtdmdcgcmappliaaRsF
import Derived.Test.YtdmdcgcmappliaaMxU
namespace Go.Proofs.Ytdmdcgcmappliaa
open Go.RowKit Gf
set_option maxRecDepth 100000
set_option maxHeartbeats 4000000
attribute [local go_sem] min_int2 max_int2 bstr_toList

def tot (S : Mat.M) : Nat → Nat
  | 0 => 0
  | i + 1 => tot S i + (S.getD i []).length
theorem tot_le (S : Mat.M) (h : ∀ r ∈ S, r.length ≤ 140737488351232) : ∀ i, i ≤ S.length → tot S i ≤ i * 140737488351232
  | 0, _ => Nat.le_refl _
  | i + 1, hi => by
    have h1 := tot_le S h i (by omega)
    have h2 := h _ (List.getElem_mem (show i < S.length by omega))
    rw [← Mat.getD_lt (show i < S.length by omega) []] at h2
    show tot S i + _ ≤ _
    omega
theorem tot_row (S : Mat.M) : ∀ i j, j < i → (S.getD j []).length ≤ tot S i
  | 0, j, h => by omega
  | i + 1, j, h => by
    show _ ≤ tot S i + _
    by_cases e : j = i
    · subst e; omega
    · have := tot_row S i j (by omega); omega
theorem small3_any (v : Value) (S : Mat.M) (hS : ∀ r ∈ S, r.length ≤ 140737488351232) (hl : S.length ≤ 140737488351232) (w : World) (hV : BRows w v S) :
    Calls Try.prog 32 #[v] w fun e w' => ∃ d : Bool, e = .returned (.bool d) ∧ Hid (d = true → S.length ≤ 300 ∧ ∀ r ∈ S, r.length ≤ 4000) ∧ w = w' := by
  obtain ⟨a, cap, rfl⟩ := hV.form
  have HV := Lib.hid hV
  have HS := Lib.hid hS
  clear hV hS
  go_enter Try.func32, Try.ntmps32
  go_wp2_with fail
  go_loop [3, 4] (fun v3 v4 => ∃ (i : Nat) (z : Int), i ≤ S.length ∧ v4 = .int .i64 (i : Nat) ∧ v3 = .int .i64 z ∧ Hid (S.length ≤ 300 → z = tot S i)) (fun _ v4 => (S.length - intOf v4).toNat)
  case atStart => exact ⟨0, 0, by omega, rfl, rfl, Lib.hid fun _ => rfl⟩
  case round =>
    obtain ⟨i, z, hi, rfl, rfl, hJ⟩ := hrel
    by_cases hlt : i < S.length
    · obtain ⟨rb, ro, ra, rc, rfl, c1, -⟩ := HV.out.at (List.getElem?_eq_getElem hlt)
      obtain ⟨p, hp⟩ : ∃ p, S[i].length = p := ⟨_, rfl⟩
      have hpd : (S.getD i []).length = p := by rw [Mat.getD_lt hlt []]; exact hp
      rw [hp] at c1
      have HP := Lib.hid hpd
      clear hp hpd
      go_wp2_with fail
      refine ⟨⟨i + 1, _, by omega, by go_num, rfl, Lib.hid fun h3 => ?_⟩, by simp [intOf]; omega⟩
      rw [hJ.out h3]
      have h1 := tot_le S HS.out (i + 1) (by omega)
      show _ = ((tot S i + (S.getD i []).length : Nat) : Int)
      have h2 : tot S i + (S.getD i []).length ≤ (i + 1) * 140737488351232 := h1
      rw [HP.out] at h2 ⊢
      unfold Go.RowKit.wrap64
      omega
    · obtain rfl : i = S.length := by omega
      clear hlt
      by_cases h3 : S.length ≤ 300
      · have hz0 := hJ.out h3
        have HZ0 := Lib.hid hz0
        by_cases hz : z ≤ 4000
        · have HZ := Lib.hid hz
          clear hz0
          go_wp2_with fail
          go_ret
          refine .inr ⟨rfl, Lib.hid fun r hr => ?_, rfl⟩
          obtain ⟨j, hj⟩ := List.getElem?_of_mem hr
          have hj2 := (List.getElem?_eq_some_iff.1 hj).1
          have h4 := tot_row S S.length j hj2
          rw [Mat.getD_lt hj2 [], (List.getElem?_eq_some_iff.1 hj).2] at h4
          have h5 := HZ0.out
          have h6 := HZ.out
          omega
        · have HZ' := Lib.hid hz
          clear hz0 hz
          go_wp2_with fail
          go_ret
          exact .inl ⟨ret_b (decide_eq_false (Int.not_le.2 HZ'.out)), Lib.hid trivial, rfl⟩
      · have h3' : 300 < S.length := by omega
        clear h3
        go_wp2_with fail
        go_ret
        exact .inl ⟨rfl, Lib.hid trivial, rfl⟩

theorem sys21 : ∃ X, Mat.sys 2 1 = some X := by
  obtain ⟨top, _, h⟩ := Mat.sys_some 2 1 (by decide)
  exact ⟨_, h⟩
theorem rsawake_any (w : World) : Calls Try.prog 31 #[] w fun e w' => e = .returned (.bool true) ∧ Ext w w' := by
  go_enter Try.func31, Try.ntmps31
  go_wp2_with fail
  refine (rsnew_any 2 1 (by decide) (by decide) (by decide) _).mono ?_; rintro e w1 ⟨cb, X, hX, rfl, hC, x1⟩
  have HX := Lib.hid (CodeMat.of_sys (by decide) (by decide) (by decide) hX)
  have HC := Lib.hid hC
  have X1 := Lib.hid x1
  have HXs := Lib.hid hX
  clear hX hC x1
  go_wp2_with fail
  have eX : X = [[1, 0], [0, 1], [3, 2]] := by
    have h : Mat.sys 2 1 = some [[1, 0], [0, 1], [3, 2]] := by decide +kernel
    rw [h] at HXs
    exact (Option.some.inj HXs.out).symm
  subst eX
  have eE : Mat.mmul [[1, 0], [0, 1], [3, 2]] [[1, 2], [3, 4]] 2 = [[1, 2], [3, 4], [5, 14]] := by decide +kernel
  have D1 : Hid (BRows ((((w1.alloc (.cells #[.int .u8 1, .int .u8 2] 5)).alloc (.cells #[.int .u8 3, .int .u8 4] 5)).alloc (.cells #[.slice (some ⟨w1.heap.size, 0, none⟩) 2 2, .slice (some ⟨w1.heap.size + 1, 0, none⟩) 2 2] 34))) (.slice (some ⟨w1.heap.size + 1 + 1, 0, none⟩) 2 2) [[1, 2], [3, 4]]) := Lib.hid (lit_mat2 (asz2 _ _ _) (lit_row (l := [1, 2]) rfl rfl rfl (by decide) (ext_alloc _ _)) (lit_row (l := [3, 4]) rfl (asz _ _) rfl (by decide) (Ext.refl _)))
  have x1a : Ext w1 (((w1.alloc (.cells #[.int .u8 1, .int .u8 2] 5)).alloc (.cells #[.int .u8 3, .int .u8 4] 5)).alloc (.cells #[.slice (some ⟨w1.heap.size, 0, none⟩) 2 2, .slice (some ⟨w1.heap.size + 1, 0, none⟩) 2 2] 34)) := Ext.trans (Ext.trans (ext_alloc _ _) (ext_alloc _ _)) (ext_alloc _ _)
  have XA := Lib.hid x1a
  clear x1a
  refine (enc_any cb 2 3 [[1, 0], [0, 1], [3, 2]] _ [[1, 2], [3, 4]] 2 (by decide) HX.out ⟨rfl, by decide⟩ _ (HC.out.ext XA.out) D1.out).mono ?_; rintro e w2 ⟨u, rfl, hU, x2⟩
  rw [eE] at hU
  have EE := Lib.hid eE
  obtain ⟨g, oc, rfl, -⟩ := hU.open1 (by decide)
  have hB := hU.brows
  obtain ⟨ra, rc, c1, hb1⟩ := hB.rowAt (i := 1) (l := [3, 4]) rfl
  obtain ⟨sa, sc, c2, hb2⟩ := hB.rowAt (i := 2) (l := [5, 14]) rfl
  rw [Nat.zero_add] at c1 c2
  have c1' : w2.cell? ⟨g, 1, none⟩ = some (.slice ra 2 rc) := c1
  have c2' : w2.cell? ⟨g, 2, none⟩ = some (.slice sa 2 sc) := c2
  have HB1 := Lib.hid hb1
  have HB2 := Lib.hid hb2
  have X2 := Lib.hid (Ext.trans X1.out (Ext.trans XA.out x2))
  have HC2 := Lib.hid (HC.out.ext (Ext.trans XA.out x2))
  clear c1 c2 hb1 hb2 hB hU eE x2
  have rb : ∀ w' q, q = w2.heap.size → Ext (w2.alloc (.cells #[.slice none 0 0, .slice ra 2 rc, .slice sa 2 sc] 34)) w' → Calls Try.prog 37 #[.pointer (some ⟨cb, 0, none⟩), .slice (some ⟨q, 0, none⟩) 3 3] w' fun e w'' => ∃ yb yo gc ra' rc', e = .returned (.tuple #[.slice (some ⟨yb, yo, none⟩) 3 gc, .int .i64 0]) ∧ w''.cell? ⟨yb, yo, none⟩ = some (.slice ra' 2 rc') ∧ Hid (Bytes w'' (.slice ra' 2 rc') [1, 2] ∧ Ext w w'' ∧ CodeAt w'' cb 2 3 [[1, 0], [0, 1], [3, 2]]) := by
    intro w' q hq e
    have m1 : BRows (w2.alloc (.cells #[.slice none 0 0, .slice ra 2 rc, .slice sa 2 sc] 34)) (.slice (some ⟨q, 0, none⟩) 3 3) [[], [3, 4], [5, 14]] := lit_mat hq rfl (by simp) rfl fun i x k hx hk => by
      match i with
      | 0 => simp at hx hk; subst hx hk; exact Cells.nil _
      | 1 => simp at hx hk; subst hx hk; exact HB1.out
      | 2 => simp at hx hk; subst hx hk; exact HB2.out
      | i + 3 => simp at hx
    have hidx : idx [[], [3, 4], [5, 14]] = [1, 2] := by decide
    cases hz : Mat.minv 2 (Mat.pick [[1, 0], [0, 1], [3, 2]] [1, 2]) with
    | none => exact absurd hz (by decide +kernel)
    | some Z =>
      have hov := over_back (S := [[], [3, 4], [5, 14]]) (D := [[1, 2], [3, 4]]) (n := 2) (Z := Z) HX.out ⟨rfl, by decide⟩ rfl (by rw [EE.out]; decide) (by rw [hidx]; decide) (by rw [hidx]; exact hz)
      refine (reb_any cb 2 3 [[1, 0], [0, 1], [3, 2]] Z _ [[], [3, 4], [5, 14]] 2 (by decide) (by decide) HX.out rfl (by decide) (by rw [hidx]; decide) (by rw [hidx]; exact hz) _ (HC2.out.ext (Ext.trans (ext_alloc _ _) e)) (m1.ext e)).mono ?_
      rintro e' w3 ⟨y, rfl, hY, x3⟩
      rw [hov, EE.out] at hY
      obtain ⟨ya, yc, rfl⟩ := hY.form
      obtain ⟨yb, yo, ra', rc', rfl, k1, k2⟩ := hY.at (i := 0) (l := [1, 2]) rfl
      rw [Nat.add_zero] at k1
      have xx := Ext.trans (Ext.trans (ext_alloc w2 (.cells #[.slice none 0 0, .slice ra 2 rc, .slice sa 2 sc] 34)) e) x3
      exact ⟨_, _, _, ra', rc', rfl, k1, Lib.hid ⟨k2, Ext.trans X2.out xx, HC2.out.ext xx⟩⟩
  have RB := Lib.hid rb
  clear rb
  go_wp2_with fail
  go_region_with (go_at_call 37; refine (RB.out _ _ rfl (by first | exact Ext.of_drawn _ 1 | exact Ext.refl _)).mono ?_; rintro e w3 ⟨yb, yo, gc, ra', rc', rfl, k1, hk⟩)
  all_goals
    have y1 := str_conv hk.out.1 w3 (Ext.refl _)
    clear c1' c2' RB
    go_wp2_with fail
    refine (rsN_any cb 2 3 [[1, 0], [0, 1], [3, 2]] _ hk.out.2.2).mono ?_; rintro e w' ⟨rfl, rfl⟩
    go_wp2_with fail
    refine (rsK_any cb 2 3 [[1, 0], [0, 1], [3, 2]] _ hk.out.2.2).mono ?_; rintro e w' ⟨rfl, rfl⟩
    go_wp2_with fail
    go_ret
    exact ⟨rfl, hk.out.2.1⟩
end Go.Proofs.Ytdmdcgcmappliaa
