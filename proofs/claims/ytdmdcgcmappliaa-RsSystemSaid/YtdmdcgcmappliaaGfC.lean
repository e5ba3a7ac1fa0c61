/-
  Contracts of the table's methods: made, Exp, Log, Mul, Div, Inv, Pow.
-/
import Derived.Test.YtdmdcgcmappliaaGfB
namespace Go.Proofs.Ytdmdcgcmappliaa
open Go.RowKit Gf
set_option maxRecDepth 100000
set_option maxHeartbeats 400000

theorem TableAt.facts {w : World} {b : Nat} (h : TableAt w b) : ∃ be bl, w.cell? ⟨b, 0, none⟩ = some (.slice (some ⟨be, 0, none⟩) 255 255) ∧ w.cell? ⟨b, 1, none⟩ = some (.slice (some ⟨bl, 0, none⟩) 256 256) ∧
    (∀ i, i < 255 → w.cell? ⟨be, i, none⟩ = some (.int .u8 (ex i : Nat))) ∧ (∀ a, a < 256 → w.cell? ⟨bl, a, none⟩ = some (.int .i64 (lg a : Nat))) := by
  obtain ⟨be, bl, R0, R1, R2⟩ := h
  refine ⟨be, bl, R0.cell rfl, R0.cell rfl, fun i hi => ?_, fun a ha => ?_⟩
  · have := R1.cell (expA_get 255 i hi); rwa [if_pos hi] at this
  · have := R2.cell (lgA_get 255 a ha); rwa [lgN_255 a ha] at this

theorem made_any (b : Nat) (w : World) (h : TableAt w b) :
    Calls Try.prog 69 #[.pointer (some ⟨b, 0, none⟩)] w fun e w' => e = .returned (.bool true) ∧ w = w' := by
  obtain ⟨be, bl, c0, c1, c2, c3⟩ := h.facts
  clear c2 c3 h
  go_enter Try.func69, Try.ntmps69
  go_wp2
  go_ret
  exact ⟨rfl, rfl⟩

/-- Two to the n, n any number. -/
def exI (n : Int) : Nat := ex (n.tmod 255 % 255).toNat
theorem exI_nat (n : Nat) : exI (n : Int) = ex n := by
  unfold exI
  have h1 : (n : Int).tmod 255 % 255 = ((n % 255 : Nat) : Int) := by
    rw [Int.tmod_eq_emod_of_nonneg (by omega)]; omega
  rw [h1, Int.toNat_natCast, ex_mod]
theorem tmod_small (z : Int) (h : -255 < z) (k : z < 255) : z.tmod 255 = z := by
  by_cases hz : 0 ≤ z
  · rw [Int.tmod_eq_emod_of_nonneg hz]; omega
  · have : (-(-z)).tmod 255 = -((-z).tmod 255) := Int.neg_tmod _ _
    rw [Int.neg_neg] at this
    rw [this, Int.tmod_eq_emod_of_nonneg (by omega)]; omega
theorem exI_sub (x y : Nat) (hx : x < 255) (hy : y < 255) : exI ((x : Int) - y) = ex (x + 255 - y) := by
  unfold exI
  have h1 : ((x : Int) - y).tmod 255 % 255 = (((x + 255 - y) % 255 : Nat) : Int) := by
    have : ((x : Int) - y).tmod 255 = (x : Int) - y := tmod_small _ (by omega) (by omega)
    rw [this]; omega
  rw [h1, Int.toNat_natCast, ex_mod]

theorem exp_any (b : Nat) (n : Int) (w : World) (h : TableAt w b) :
    Calls Try.prog 74 #[.pointer (some ⟨b, 0, none⟩), .int .i64 n] w fun e w' => e = .returned (.int .u8 (exI n : Nat)) ∧ w = w' := by
  obtain ⟨be, bl, c0, c1, c2, c3⟩ := h.facts
  have k1 : -255 < n.tmod 255 := by
    have := Int.tmod_lt_of_pos (-n) (show (0 : Int) < 255 by decide); rw [Int.neg_tmod] at this; omega
  have k2 : n.tmod 255 < 255 := Int.tmod_lt_of_pos n (by decide)
  have k3 : 0 ≤ n.tmod 255 % 255 := by omega
  have k4 : n.tmod 255 % 255 < 255 := by omega
  have g := c2 (n.tmod 255 % 255).toNat (by omega)
  have hh := Lib.hid h
  clear c1 c2 c3 h
  go_enter Try.func74, Try.ntmps74
  go_wp2_with (go_at_call 69; refine (made_any b _ hh.out).mono ?_; rintro e w' ⟨rfl, rfl⟩)
  go_ret
  exact ⟨rfl, rfl⟩

theorem log_zero (b : Nat) (w : World) (h : TableAt w b) :
    Calls Try.prog 73 #[.pointer (some ⟨b, 0, none⟩), .int .u8 0] w fun e w' => e = .returned (.tuple #[.int .i64 0, .bool false]) ∧ w = w' := by
  have hh := Lib.hid h
  clear h
  go_enter Try.func73, Try.ntmps73
  go_wp2_with (go_at_call 69; refine (made_any b _ hh.out).mono ?_; rintro e w' ⟨rfl, rfl⟩)
  go_ret2
  exact ⟨rfl, rfl⟩
theorem log_any (b a : Nat) (ha : a < 256) (h0 : a ≠ 0) (w : World) (h : TableAt w b) :
    Calls Try.prog 73 #[.pointer (some ⟨b, 0, none⟩), .int .u8 a] w fun e w' => e = .returned (.tuple #[.int .i64 (lg a : Nat), .bool true]) ∧ w = w' := by
  obtain ⟨be, bl, c0, c1, c2, c3⟩ := h.facts
  have g := c3 a ha
  have hh := Lib.hid h
  have h1 : 0 < (a : Int) := by omega
  have h2 : (a : Int) < 256 := by omega
  clear c0 c2 c3 h
  go_enter Try.func73, Try.ntmps73
  go_wp2_with (go_at_call 69; refine (made_any b _ hh.out).mono ?_; rintro e w' ⟨rfl, rfl⟩)
  go_ret2
  exact ⟨rfl, rfl⟩

theorem tmul_any (b x y : Nat) (hx : x < 256) (hy : y < 256) (w : World) (h : TableAt w b) :
    Calls Try.prog 70 #[.pointer (some ⟨b, 0, none⟩), .int .u8 x, .int .u8 y] w fun e w' => e = .returned (.int .u8 (gmul x y : Nat)) ∧ w = w' := by
  have hh := Lib.hid h
  clear h
  by_cases x0 : x = 0
  · subst x0
    rw [gmul_zero_left]
    by_cases y0 : y = 0
    · subst y0
      go_enter Try.func70, Try.ntmps70
      go_wp2_with (go_at_call 73; refine (log_zero b _ hh.out).mono ?_; rintro e w' ⟨rfl, rfl⟩)
      go_ret
      exact ⟨rfl, rfl⟩
    · go_enter Try.func70, Try.ntmps70
      go_wp2_with fail
      refine (log_zero b _ hh.out).mono ?_; rintro e w' ⟨rfl, rfl⟩
      go_wp2_with fail
      refine (log_any b y hy y0 _ hh.out).mono ?_; rintro e w' ⟨rfl, rfl⟩
      go_wp2
      go_ret
      exact ⟨rfl, rfl⟩
  · by_cases y0 : y = 0
    · subst y0
      rw [gmul_zero_right]
      go_enter Try.func70, Try.ntmps70
      go_wp2_with fail
      refine (log_any b x hx x0 _ hh.out).mono ?_; rintro e w' ⟨rfl, rfl⟩
      go_wp2_with fail
      refine (log_zero b _ hh.out).mono ?_; rintro e w' ⟨rfl, rfl⟩
      go_wp2
      go_ret
      exact ⟨rfl, rfl⟩
    · have hl := lg_lt x hx
      have hm := lg_lt y hy
      rw [gmul_lg x y hx hy x0 y0, ← exI_nat]
      go_enter Try.func70, Try.ntmps70
      go_wp2_with fail
      refine (log_any b x hx x0 _ hh.out).mono ?_; rintro e w' ⟨rfl, rfl⟩
      go_wp2_with fail
      refine (log_any b y hy y0 _ hh.out).mono ?_; rintro e w' ⟨rfl, rfl⟩
      go_wp2_with fail
      refine (exp_any b _ _ hh.out).mono ?_; rintro e w' ⟨rfl, rfl⟩
      go_wp2
      go_ret
      exact ⟨rfl, rfl⟩

theorem div_none (b x : Nat) (w : World) (h : TableAt w b) :
    Calls Try.prog 68 #[.pointer (some ⟨b, 0, none⟩), .int .u8 x, .int .u8 0] w fun e w' => e = .returned (.tuple #[.int .u8 0, .bool false]) ∧ w = w' := by
  have hh := Lib.hid h
  clear h
  go_enter Try.func68, Try.ntmps68
  go_wp2_with (go_at_call 73; refine (log_zero b _ hh.out).mono ?_; rintro e w' ⟨rfl, rfl⟩)
  go_ret2
  exact ⟨rfl, rfl⟩
theorem div_zero (b y : Nat) (hy : y < 256) (y0 : y ≠ 0) (w : World) (h : TableAt w b) :
    Calls Try.prog 68 #[.pointer (some ⟨b, 0, none⟩), .int .u8 0, .int .u8 y] w fun e w' => e = .returned (.tuple #[.int .u8 0, .bool true]) ∧ w = w' := by
  have hh := Lib.hid h
  clear h
  go_enter Try.func68, Try.ntmps68
  go_wp2_with fail
  refine (log_any b y hy y0 _ hh.out).mono ?_; rintro e w' ⟨rfl, rfl⟩
  go_wp2_with fail
  refine (log_zero b _ hh.out).mono ?_; rintro e w' ⟨rfl, rfl⟩
  go_wp2
  go_ret2
  exact ⟨rfl, rfl⟩
theorem div_any (b x y : Nat) (hx : x < 256) (x0 : x ≠ 0) (hy : y < 256) (y0 : y ≠ 0) (w : World) (h : TableAt w b) :
    Calls Try.prog 68 #[.pointer (some ⟨b, 0, none⟩), .int .u8 x, .int .u8 y] w fun e w' => e = .returned (.tuple #[.int .u8 (ex (lg x + 255 - lg y) : Nat), .bool true]) ∧ w = w' := by
  have hh := Lib.hid h
  clear h
  have hl := lg_lt x hx
  have hm := lg_lt y hy
  rw [← exI_sub _ _ hl hm]
  go_enter Try.func68, Try.ntmps68
  go_wp2_with fail
  refine (log_any b y hy y0 _ hh.out).mono ?_; rintro e w' ⟨rfl, rfl⟩
  go_wp2_with fail
  refine (log_any b x hx x0 _ hh.out).mono ?_; rintro e w' ⟨rfl, rfl⟩
  go_wp2_with fail
  refine (exp_any b _ _ hh.out).mono ?_; rintro e w' ⟨rfl, rfl⟩
  go_wp2
  go_ret2
  exact ⟨rfl, rfl⟩
/-- One divided by y. -/
def ginv (y : Nat) : Nat := ex (255 - lg y)
theorem inv_none (b : Nat) (w : World) (h : TableAt w b) :
    Calls Try.prog 48 #[.pointer (some ⟨b, 0, none⟩), .int .u8 0] w fun e w' => e = .returned (.tuple #[.int .u8 0, .bool false]) ∧ w = w' := by
  have hh := Lib.hid h
  clear h
  go_enter Try.func48, Try.ntmps48
  go_wp2_with fail
  refine (div_none b 1 _ hh.out).mono ?_; rintro e w' ⟨rfl, rfl⟩
  go_wp2
  go_ret2
  exact ⟨rfl, rfl⟩
theorem inv_any (b y : Nat) (hy : y < 256) (y0 : y ≠ 0) (w : World) (h : TableAt w b) :
    Calls Try.prog 48 #[.pointer (some ⟨b, 0, none⟩), .int .u8 y] w fun e w' => e = .returned (.tuple #[.int .u8 (ginv y : Nat), .bool true]) ∧ w = w' := by
  have hh := Lib.hid h
  clear h
  go_enter Try.func48, Try.ntmps48
  go_wp2_with fail
  refine (div_any b 1 y (by decide) (by decide) hy y0 _ hh.out).mono ?_; rintro e w' ⟨rfl, rfl⟩
  go_wp2
  go_ret2
  refine ⟨?_, rfl⟩
  have : lg 1 = 0 := by decide
  rw [this]; unfold ginv; rw [Nat.zero_add]; rfl

/-- x to the n. -/
def gpow (x : Nat) (n : Int) : Nat := if n < 0 then 0 else if n = 0 then 1 else if x = 0 then 0 else exI ((lg x : Int) * (n % 255))
theorem tpow_any (b x : Nat) (hx : x < 256) (n : Int) (w : World) (h : TableAt w b) :
    Calls Try.prog 53 #[.pointer (some ⟨b, 0, none⟩), .int .u8 x, .int .i64 n] w fun e w' => e = .returned (.int .u8 (gpow x n : Nat)) ∧ w = w' := by
  have hh := Lib.hid h
  clear h
  by_cases n0 : n < 0
  · have e : gpow x n = 0 := by unfold gpow; rw [if_pos n0]
    rw [e]
    clear e
    go_enter Try.func53, Try.ntmps53
    go_wp2_with (go_at_call 69; refine (made_any b _ hh.out).mono ?_; rintro e w' ⟨rfl, rfl⟩)
    go_ret
    exact ⟨rfl, rfl⟩
  by_cases n1 : n = 0
  · subst n1
    have e : gpow x 0 = 1 := rfl
    rw [e]
    clear e
    go_enter Try.func53, Try.ntmps53
    go_wp2_with (go_at_call 69; refine (made_any b _ hh.out).mono ?_; rintro e w' ⟨rfl, rfl⟩)
    go_ret
    exact ⟨rfl, rfl⟩
  have n2 : 0 < n := by omega
  clear n0 n1
  by_cases x0 : x = 0
  · subst x0
    have e : gpow 0 n = 0 := by unfold gpow; rw [if_neg (by omega), if_neg (by omega), if_pos rfl]
    rw [e]
    clear e
    go_enter Try.func53, Try.ntmps53
    go_wp2_with (first | (go_at_call 69; refine (made_any b _ hh.out).mono ?_; rintro e w' ⟨rfl, rfl⟩) | (go_at_call 73; refine (log_zero b _ hh.out).mono ?_; rintro e w' ⟨rfl, rfl⟩))
    go_ret
    exact ⟨rfl, rfl⟩
  · have e : gpow x n = exI ((lg x : Int) * (n % 255)) := by unfold gpow; rw [if_neg (by omega), if_neg (by omega), if_neg x0]
    rw [e]
    clear e
    have hl := lg_lt x hx
    have b1 : 0 ≤ n % 255 := by omega
    have b2 : n % 255 < 255 := by omega
    have b3 : 0 ≤ (lg x : Int) * (n % 255) := Int.mul_nonneg (by omega) b1
    have b4 : (lg x : Int) * (n % 255) ≤ 255 * 255 := Int.mul_le_mul (by omega) (by omega) b1 (by omega)
    go_enter Try.func53, Try.ntmps53
    go_wp2_with (first | (go_at_call 69; refine (made_any b _ hh.out).mono ?_; rintro e w' ⟨rfl, rfl⟩) | (go_at_call 73; refine (log_any b x hx x0 _ hh.out).mono ?_; rintro e w' ⟨rfl, rfl⟩) | (go_at_call 74; refine (exp_any b _ _ hh.out).mono ?_; rintro e w' ⟨rfl, rfl⟩))
    go_ret
    exact ⟨rfl, rfl⟩

end Go.Proofs.Ytdmdcgcmappliaa
