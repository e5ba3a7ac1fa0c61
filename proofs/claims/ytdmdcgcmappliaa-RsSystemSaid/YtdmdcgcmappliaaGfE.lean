/-
  Contracts of the reference's field functions: Pow, Exp, Log, Inv, Div, MulAdd.
-/
import Derived.Test.YtdmdcgcmappliaaGfD
namespace Go.Proofs.Ytdmdcgcmappliaa
open Go.RowKit Gf
set_option maxRecDepth 100000
set_option maxHeartbeats 1000000
attribute [local go_sem] min_int2 max_int2

theorem pow_step (x i : Nat) (hx : x < 256) (x0 : x ≠ 0) : gmul (ex (lg x * i)) x = ex (lg x * (i + 1)) := by
  have : gmul (ex (lg x * i)) (ex (lg x)) = _ := gmul_ex_ex _ _
  rw [ex_lg x hx x0] at this
  rw [this]; rfl
theorem gpow_pos (x : Nat) (n : Int) (h : 0 ≤ n) (x0 : x ≠ 0) : gpow x n = ex (lg x * (n % 255).toNat) := by
  unfold gpow
  rw [if_neg (by omega)]
  by_cases h0 : n = 0
  · subst h0; rw [if_pos rfl]; rfl
  · rw [if_neg h0, if_neg x0, ← exI_nat]
    congr 1
    rw [Int.natCast_mul]; congr 1; omega

theorem rpow_any (x : Nat) (hx : x < 256) (n : Int) (w : World) :
    Calls Try.prog 54 #[.int .u8 x, .int .i64 n] w fun e w' => e = .returned (.int .u8 (gpow x n : Nat)) ∧ w = w' := by
  by_cases n0 : n < 0
  · have e : gpow x n = 0 := by unfold gpow; rw [if_pos n0]
    rw [e]
    clear e
    go_enter Try.func54, Try.ntmps54
    go_wp2
    go_ret
    exact ⟨rfl, rfl⟩
  have n1 : 0 ≤ n := by omega
  by_cases x0 : x = 0
  · subst x0
    by_cases n2 : n = 0
    · subst n2
      have e : gpow 0 0 = 1 := rfl
      rw [e]
      clear e
      go_enter Try.func54, Try.ntmps54
      go_wp2
      go_rounds 1
      go_ret
      exact ⟨rfl, rfl⟩
    · have n3 : 0 < n := by omega
      have e : gpow 0 n = 0 := by unfold gpow; rw [if_neg (by omega), if_neg n2, if_pos rfl]
      rw [e]
      clear e
      go_enter Try.func54, Try.ntmps54
      go_wp2
      go_ret
      exact ⟨rfl, rfl⟩
  · rw [gpow_pos x n n1 x0]
    have hb : (((x : Nat) : Int) == 0) = false := by simp; omega
    have hx0 : 0 < (x : Int) := by omega
    have key : ∀ i v6, v6 = Value.int .i64 (i : Nat) → (i : Int) ≤ n % 255 → i ≤ 255 := by intro i v _ h; omega
    clear key
    by_cases n2 : n = 0
    · subst n2
      go_enter Try.func54, Try.ntmps54
      go_wp2
      go_rounds 1
      go_ret
      exact ⟨rfl, rfl⟩
    have n3 : 0 < n := by omega
    go_enter Try.func54, Try.ntmps54
    go_wp2
    go_loop [5, 6] (fun v5 v6 => ∃ i : Nat, (i : Int) ≤ n % 255 ∧ v5 = .int .u8 (ex (lg x * i) : Nat) ∧ v6 = .int .i64 i) (fun _ v6 => (255 - intOf v6).toNat)
    case atStart => exact ⟨0, by omega, rfl, rfl⟩
    case round =>
      obtain ⟨i, hi, rfl, rfl⟩ := hrel
      have hs := Lib.hid (pow_step x i hx x0)
      by_cases hlt : (i : Int) < n % 255
      · go_wp2_with (go_at_call 38; refine (rmul_any _ x (ex_lt _) hx _).mono ?_; rintro e w' ⟨rfl, rfl⟩)
        go_round
        case rel => exact ⟨i + 1, by omega, by rw [hs.out], by go_num⟩
        case measure => simp [intOf]; omega
      · go_wp2
        go_ret
        have : (n % 255).toNat = i := by omega
        exact ⟨by rw [this]; rfl, rfl⟩

theorem ex_inj (n a : Nat) (hn : n < 255) (ha : a < 256) (a0 : a ≠ 0) : ex n = a ↔ n = lg a := by
  constructor
  · intro h; rw [← h, lg_ex, Nat.mod_eq_of_lt hn]
  · intro h; rw [h, ex_lg a ha a0]
theorem ginv_lt (a : Nat) : ginv a < 256 := ex_lt _
theorem gmul_ginv (a : Nat) (ha : a < 256) (a0 : a ≠ 0) : gmul a (ginv a) = 1 := by
  have hl := lg_lt a ha
  have := gmul_ex_ex (lg a) (255 - lg a)
  rw [ex_lg a ha a0] at this
  unfold ginv
  rw [this, show lg a + (255 - lg a) = 255 by omega]; rfl
theorem gmul_one_iff (a b : Nat) (ha : a < 256) (a0 : a ≠ 0) (hb : b < 256) : gmul a b = 1 ↔ b = ginv a := by
  constructor
  · intro h
    have h1 : gmul (gmul (ginv a) a) b = gmul (ginv a) (gmul a b) := gmul_assoc _ _ _ (ginv_lt a) ha hb
    rw [h, gmul_comm (ginv a) a (ginv_lt a) ha, gmul_ginv a ha a0, gmul_one_left b hb, gmul_one _ (ginv_lt a)] at h1
    exact h1
  · intro h; rw [h, gmul_ginv a ha a0]

theorem rinv_zero (w : World) :
    Calls Try.prog 76 #[.int .u8 0] w fun e w' => e = .returned (.tuple #[.int .u8 0, .bool false]) ∧ w = w' := by
  go_enter Try.func76, Try.ntmps76
  go_wp2
  go_loop [4] (fun v4 => ∃ i : Nat, 1 ≤ i ∧ i ≤ 256 ∧ v4 = .int .i64 i) (fun v4 => (256 - intOf v4).toNat)
  case atStart => exact ⟨1, by omega, by omega, rfl⟩
  case round =>
    obtain ⟨i, hi1, hi, rfl⟩ := hrel
    have hz := gmul_zero_left i
    by_cases hlt : (i : Int) < 256
    · go_wp2_with (go_at_call 38; refine (rmul_any 0 i (by decide) (by omega) _).mono ?_; rintro e w' ⟨rfl, rfl⟩)
      go_round
      case rel => exact ⟨i + 1, by omega, by omega, by go_num⟩
      case measure => simp [intOf]; omega
    · go_wp2
      go_ret2
      exact ⟨rfl, rfl⟩
theorem rinv_any (a : Nat) (ha : a < 256) (a0 : a ≠ 0) (w : World) :
    Calls Try.prog 76 #[.int .u8 a] w fun e w' => e = .returned (.tuple #[.int .u8 (ginv a : Nat), .bool true]) ∧ w = w' := by
  have hl := ginv_lt a
  have hg : 0 < ginv a := ex_pos _
  go_enter Try.func76, Try.ntmps76
  go_wp2
  go_loop [4] (fun v4 => ∃ i : Nat, 1 ≤ i ∧ i ≤ ginv a ∧ v4 = .int .i64 i) (fun v4 => (256 - intOf v4).toNat)
  case atStart => exact ⟨1, by omega, by omega, rfl⟩
  case round =>
    obtain ⟨i, hi1, hi, rfl⟩ := hrel
    have hlt : (i : Int) < 256 := by omega
    have hj := gmul_one_iff a i ha a0 (by omega)
    by_cases he : i = ginv a
    · have hq : (((gmul a i : Nat) : Int) == 1) = true := by simp; omega
      have he' := Lib.hid he
      clear hj he
      go_wp2_with (go_at_call 38; refine (rmul_any a i ha (by omega) _).mono ?_; rintro e w' ⟨rfl, rfl⟩)
      go_ret2
      exact ⟨by rw [← he'.out]; rfl, rfl⟩
    · have hq : (((gmul a i : Nat) : Int) == 1) = false := by simp; omega
      clear hj
      go_wp2_with (go_at_call 38; refine (rmul_any a i ha (by omega) _).mono ?_; rintro e w' ⟨rfl, rfl⟩)
      go_round
      case rel => exact ⟨i + 1, by omega, by omega, by go_num⟩
      case measure => simp [intOf]; omega

theorem rmuladd_empty (a : Option Addr) (cap : Nat) (s : List UInt8) (c : UInt8) (sv : Value) (w : World) (hd : Bytes w (.slice a 0 cap) []) (hs : Bytes w sv s) :
    Calls Try.prog 34 #[.slice a 0 cap, sv, .int .u8 c.toNat] w fun e w' => e = .returned (.slice none 0 0) ∧ Ext w w' := by
  obtain ⟨a2, cap2, rfl, -, -, -⟩ := hs
  have hdd := Lib.hid hd
  clear hd
  go_enter Try.func34, Try.ntmps34
  go_wp2_with (at_builtin; refine wpList_app_none rfl _ _ 34 5 (.int .u8 0) 1 rfl Try.underlying34 info_u8 rfl rfl rfl hdd.out ?_; intro w1 hg1)
  go_rounds 1
  go_ret
  exact ⟨rfl, Ext.grown hg1 (fun k h => by cases h)⟩

theorem rmuladd_full (d s : List UInt8) (c : UInt8) (db dof dcap : Nat) (sa : Option Addr) (scap : Nat) (w : World) (hd0 : 0 < d.length) (hdl : d.length ≤ 140737488351232) (hsl : s.length ≤ 140737488351232)
    (hd : Bytes w (.slice (some ⟨db, dof, none⟩) d.length dcap) d) (hs : Bytes w (.slice sa s.length scap) s) :
    Calls Try.prog 34 #[.slice (some ⟨db, dof, none⟩) d.length dcap, .slice sa s.length scap, .int .u8 c.toNat] w
      fun e w' => ∃ v, e = .returned v ∧ Own w' w.heap.size 5 v (bvs (mad d s c)) ∧ Ext w w' := by
  have hdd := Lib.hid hd
  have hss := Lib.hid hs
  clear hd hs
  go_enter Try.func34, Try.ntmps34
  go_wp2_with (at_builtin; refine wpList_app_some rfl _ _ 34 5 (.int .u8 0) 1 rfl Try.underlying34 info_u8 rfl rfl (Own.nil w w.heap.size _) rfl hdd.out (bvs_one _) ?_ ?_ (Nat.le_refl _) d.length ?_ (bvs d) rfl hd0 ?_)
  · simp [maxLen]; omega
  · simp; omega
  · simp
  intro g gc w1 hown hgr
  have hB1 : Ext w w1 := Ext.grown hgr (fun k h => by cases h)
  clear hgr
  have hO := Lib.hid hown
  clear hown
  go_wp2
  go_loopw [8] (fun v8 wr => ∃ i : Nat, i ≤ d.length ∧ i ≤ s.length ∧ Hid (Own wr w.heap.size 5 (.slice (some ⟨g, 0, none⟩) d.length gc) (bvs (mad d (s.take i) c))) ∧ Below w.heap.size w wr ∧ v8 = .int .i64 i) (fun v8 _ => (d.length - intOf v8).toNat)
  case atStart => exact ⟨0, by omega, by omega, by rw [List.take_zero, mad_nil]; exact hO, hB1, rfl⟩
  case round =>
    obtain ⟨i, hi1, hi2, hOr, hBr, rfl⟩ := hrel
    by_cases hlt : i < d.length ∧ i < s.length
    · obtain ⟨hl1, hl2⟩ := hlt
      have hm := mad_take d s c i hl1 hl2
      have c1 := hOr.out.parts.2.2.2.2.2.1 i (bv d[i]) (by rw [List.getElem?_map, hm.1]; rfl)
      have f1 := hOr.out.parts.2.2.2.2.2.2 i
      have hg1 := hOr.out.parts.2.1
      obtain ⟨sb, so, rfl, c2⟩ := (hss.out.ext hBr).at (bvs_get hl2)
      have hm2 := Lib.hid hm.2
      clear hm
      have hgb := g8_bits d[i] s[i] c
      go_wp2
      go_region_with (go_at_call 38; refine (rmul_any _ _ (u8lt s[i]) (u8lt c) _).mono ?_; rintro e w' ⟨rfl, rfl⟩)
      all_goals
        go_wp2
        refine ⟨⟨i + 1, by omega, by omega, ?_, (hBr.setCell (p := ⟨g, i, none⟩) hg1 _).drew, by go_num⟩, by simp [intOf]; omega⟩
        have := hOr.out.set i (bv (d[i] ^^^ g8 s[i] c))
        rw [bvs_set, hm2.out] at this
        exact this
    · have hO2 := hOr.out
      rw [mad_long d s c i (by omega)] at hO2
      have hO3 := Lib.hid hO2
      clear hO2 hO hOr
      by_cases h1 : i < d.length
      · have h2 : ¬ i < s.length := fun h => hlt ⟨h1, h⟩
        clear hlt
        go_wp2
        go_ret
        exact ⟨_, rfl, hO3.out, hBr⟩
      · clear hlt
        go_wp2
        go_ret
        exact ⟨_, rfl, hO3.out, hBr⟩

/-- The reference's MulAdd: a new row. -/
theorem rmuladd_any (d s : List UInt8) (c : UInt8) (dv sv : Value) (w : World) (hdl : d.length ≤ 140737488351232) (hsl : s.length ≤ 140737488351232) (hd : Bytes w dv d) (hs : Bytes w sv s) :
    Calls Try.prog 34 #[dv, sv, .int .u8 c.toNat] w
      fun e w' => ∃ v, e = .returned v ∧ Own w' w.heap.size 5 v (bvs (mad d s c)) ∧ Ext w w' := by
  rcases hd.forms with ⟨h0, a, cap, rfl⟩ | ⟨h0, db, dof, dcap, rfl, _⟩
  · have : d = [] := by simpa using h0
    subst this
    refine (rmuladd_empty a cap s c sv w hd hs).mono ?_
    rintro e w' ⟨rfl, hx⟩
    exact ⟨_, rfl, by cases s <;> exact Own.nil _ _ _, hx⟩
  · obtain ⟨sa, scap, e1, k1, k2, k3⟩ := id hs
    have hpos : 0 < d.length := by
      cases d with
      | nil => simp at h0
      | cons x l => simp
    rw [bvs_len s] at e1
    subst e1
    rw [bvs_len d] at hd ⊢
    exact rmuladd_full d s c db dof dcap sa scap w hpos hdl hsl hd hs
end Go.Proofs.Ytdmdcgcmappliaa
