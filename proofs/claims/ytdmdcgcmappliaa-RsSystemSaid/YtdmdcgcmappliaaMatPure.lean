/-
  Sums, products and inverses of matrices over the field, in plain Lean, entry by entry. No program in sight.
-/
import Derived.Test.YtdmdcgcmappliaaGfVec
namespace Go.Proofs.Ytdmdcgcmappliaa.Mat
open Go.Proofs.Ytdmdcgcmappliaa.Gf

theorem u8_ext {x y : UInt8} (h : x.toNat = y.toNat) : x = y := UInt8.toNat_inj.1 h
theorem g8_comm (x y : UInt8) : g8 x y = g8 y x := u8_ext (by rw [g8_toNat, g8_toNat, gmul_comm _ _ (u8lt x) (u8lt y)])
theorem g8_assoc (x y z : UInt8) : g8 (g8 x y) z = g8 x (g8 y z) := u8_ext (by rw [g8_toNat, g8_toNat, g8_toNat, g8_toNat, gmul_assoc _ _ _ (u8lt x) (u8lt y) (u8lt z)])
theorem g8_xor (x y z : UInt8) : g8 x (y ^^^ z) = g8 x y ^^^ g8 x z := u8_ext (by rw [UInt8.toNat_xor, g8_toNat, g8_toNat, g8_toNat, UInt8.toNat_xor, gmul_xor])
theorem g8_xor_left (x y z : UInt8) : g8 (x ^^^ y) z = g8 x z ^^^ g8 y z := by rw [g8_comm, g8_xor, g8_comm z, g8_comm z]
theorem g8_zero (x : UInt8) : g8 x 0 = 0 := u8_ext (by rw [g8_toNat]; exact gmul_zero_right _)
theorem g8_zero_left (x : UInt8) : g8 0 x = 0 := by rw [g8_comm, g8_zero]
theorem g8_one (x : UInt8) : g8 x 1 = x := u8_ext (by rw [g8_toNat]; exact gmul_one _ (u8lt x))
theorem g8_one_left (x : UInt8) : g8 1 x = x := by rw [g8_comm, g8_one]
/-- The inverse. -/
def gi (x : UInt8) : UInt8 := UInt8.ofNat (ex (255 - lg x.toNat))
theorem ne_toNat {x : UInt8} (h : x ≠ 0) : x.toNat ≠ 0 := fun h' => h (u8_ext h')
theorem gi_toNat (x : UInt8) : (gi x).toNat = ex (255 - lg x.toNat) := by
  unfold gi
  rw [UInt8.toNat_ofNat']
  exact Nat.mod_eq_of_lt (ex_lt _)
theorem g8_gi {x : UInt8} (h : x ≠ 0) : g8 x (gi x) = 1 := by
  have h0 := ne_toNat h
  have hl := lg_lt _ (u8lt x)
  have e : gmul x.toNat (ex (255 - lg x.toNat)) = 1 := by
    conv => lhs; rw [← ex_lg x.toNat (u8lt x) h0]
    rw [lg_ex, Nat.mod_eq_of_lt hl, gmul_ex_ex, show lg x.toNat + (255 - lg x.toNat) = 255 by omega]
    decide
  exact u8_ext (by rw [g8_toNat, gi_toNat, e]; rfl)
theorem g8_ne_zero {x y : UInt8} (hx : x ≠ 0) (hy : y ≠ 0) : g8 x y ≠ 0 := fun h => by
  have := congrArg UInt8.toNat h
  rw [g8_toNat] at this
  exact gmul_ne_zero _ _ (u8lt x) (u8lt y) (ne_toNat hx) (ne_toNat hy) this
theorem xself (x : UInt8) : x ^^^ x = 0 := by simp
theorem xzero (x : UInt8) : x ^^^ 0 = x := by simp
theorem zerox (x : UInt8) : 0 ^^^ x = x := by simp
theorem xcomm (x y : UInt8) : x ^^^ y = y ^^^ x := UInt8.xor_comm x y
theorem xassoc (x y z : UInt8) : (x ^^^ y) ^^^ z = x ^^^ (y ^^^ z) := UInt8.xor_assoc x y z
theorem xfour (a b c d : UInt8) : (a ^^^ b) ^^^ (c ^^^ d) = (a ^^^ c) ^^^ (b ^^^ d) := by
  rw [xassoc, xassoc, ← xassoc b c d, xcomm b c, xassoc c b d]
theorem xtwice (a b : UInt8) : (a ^^^ b) ^^^ b = a := by rw [xassoc, xself, xzero]
theorem x_eq_zero {a b : UInt8} (h : a ^^^ b = 0) : a = b := by
  have := congrArg (· ^^^ b) h
  simp only [xtwice, zerox] at this
  exact this

/-- The sum of the first n. -/
def sm : Nat → (Nat → UInt8) → UInt8
  | 0, _ => 0
  | n + 1, f => sm n f ^^^ f n
theorem sm_congr : ∀ (n : Nat) {f g : Nat → UInt8}, (∀ i, i < n → f i = g i) → sm n f = sm n g
  | 0, _, _, _ => rfl
  | n + 1, f, g, h => by unfold sm; rw [sm_congr n (fun i hi => h i (by omega)), h n (by omega)]
theorem sm_zero : ∀ n : Nat, sm n (fun _ => 0) = 0
  | 0 => rfl
  | n + 1 => by unfold sm; rw [sm_zero n]; exact xself 0
theorem sm_xor : ∀ (n : Nat) (f g : Nat → UInt8), sm n (fun i => f i ^^^ g i) = sm n f ^^^ sm n g
  | 0, _, _ => (xself 0).symm
  | n + 1, f, g => by unfold sm; rw [sm_xor n, xfour]
theorem sm_mul (c : UInt8) : ∀ (n : Nat) (f : Nat → UInt8), g8 (sm n f) c = sm n (fun i => g8 (f i) c)
  | 0, _ => g8_zero_left c
  | n + 1, f => by unfold sm; rw [g8_xor_left, sm_mul c n]
theorem sm_mul_left (c : UInt8) (n : Nat) (f : Nat → UInt8) : g8 c (sm n f) = sm n (fun i => g8 c (f i)) := by
  rw [g8_comm, sm_mul]; exact sm_congr n fun i _ => g8_comm _ _
theorem sm_swap : ∀ (n m : Nat) (f : Nat → Nat → UInt8), sm n (fun i => sm m (fun j => f i j)) = sm m (fun j => sm n (fun i => f i j))
  | 0, m, f => by rw [show (fun j => sm 0 (fun i => f i j)) = fun _ => 0 from rfl, sm_zero]; rfl
  | n + 1, m, f => by
    show sm n _ ^^^ sm m _ = sm m (fun j => sm n _ ^^^ f n j)
    rw [sm_xor, sm_swap n m f]
theorem sm_one : ∀ (n : Nat) (f : Nat → UInt8) (k : Nat), k < n → (∀ i, i < n → i ≠ k → f i = 0) → sm n f = f k
  | 0, _, _, h, _ => by omega
  | n + 1, f, k, h, hz => by
    unfold sm
    by_cases e : k = n
    · subst e
      rw [sm_congr k (g := fun _ => 0) (fun i hi => hz i (by omega) (by omega)), sm_zero, zerox]
    · rw [sm_one n f k (by omega) (fun i hi => hz i (by omega)), hz n (by omega) (fun h => e h.symm), xzero]
theorem sm_none (n : Nat) (f : Nat → UInt8) (h : ∀ i, i < n → f i = 0) : sm n f = 0 := by rw [sm_congr n h, sm_zero]
/-- A sum in which two places are handed over. -/
theorem sm_two (n : Nat) (f : Nat → UInt8) (p q : Nat) (hp : p < n) (hq : q < n) (hpq : p ≠ q) : sm n f = f p ^^^ f q ^^^ sm n (fun i => if i = p ∨ i = q then 0 else f i) := by
  have e : sm n f = sm n (fun i => ((if i = p then f p else 0) ^^^ (if i = q then f q else 0)) ^^^ (if i = p ∨ i = q then 0 else f i)) := by
    refine sm_congr n fun i _ => ?_
    by_cases h1 : i = p
    · subst h1; rw [if_pos rfl, if_neg hpq, if_pos (.inl rfl), xzero, xzero]
    · by_cases h2 : i = q
      · subst h2; rw [if_neg h1, if_pos rfl, if_pos (.inr rfl), xzero, zerox]
      · rw [if_neg h1, if_neg h2, if_neg (by simp [h1, h2]), zerox, zerox]
  rw [e, sm_xor, sm_xor]
  congr 2
  · rw [sm_one n _ p hp (fun i _ h => if_neg h), if_pos rfl]
  · rw [sm_one n _ q hq (fun i _ h => if_neg h), if_pos rfl]

abbrev Fn := Nat → Nat → UInt8
/-- The product, by entries; n is the middle side. -/
def mul (n : Nat) (A B : Fn) : Fn := fun i j => sm n fun k => g8 (B k j) (A i k)
def one : Fn := fun i j => if i = j then 1 else 0
theorem mul_assoc (n m : Nat) (A B C : Fn) (i j : Nat) : mul m (mul n A B) C i j = mul n A (mul m B C) i j := by
  show sm m (fun k => g8 (C k j) (sm n fun l => g8 (B l k) (A i l))) = sm n (fun l => g8 (sm m fun k => g8 (C k j) (B l k)) (A i l))
  rw [sm_congr m (fun k _ => sm_mul_left _ n _), sm_swap, sm_congr n]
  intro l _
  rw [sm_mul]
  exact sm_congr m fun k _ => (g8_assoc _ _ _).symm
theorem mul_congr (n : Nat) {A A' B B' : Fn} (i j : Nat) (hA : ∀ k, k < n → A i k = A' i k) (hB : ∀ k, k < n → B k j = B' k j) : mul n A B i j = mul n A' B' i j :=
  sm_congr n fun k hk => by rw [hA k hk, hB k hk]
theorem one_mul (n : Nat) (A : Fn) (i j : Nat) (hi : i < n) : mul n one A i j = A i j := by
  show sm n (fun k => g8 (A k j) (one i k)) = _
  rw [sm_one n _ i hi (fun k _ h => by unfold one; rw [if_neg (fun e => h e.symm), g8_zero])]
  unfold one; rw [if_pos rfl, g8_one]
theorem mul_one (n : Nat) (A : Fn) (i j : Nat) (hj : j < n) : mul n A one i j = A i j := by
  show sm n (fun k => g8 (one k j) (A i k)) = _
  rw [sm_one n _ j hj (fun k _ h => by unfold one; rw [if_neg h, g8_zero_left])]
  unfold one; rw [if_pos rfl, g8_one_left]

/-- Rows' swap, scaling and adding, and what undoes them on the columns of the left factor. -/
def swp (c p : Nat) (A : Fn) : Fn := fun i j => if i = c then A p j else if i = p then A c j else A i j
def swpc (c p : Nat) (Z : Fn) : Fn := fun i j => if j = c then Z i p else if j = p then Z i c else Z i j
def scl (c : Nat) (f : UInt8) (A : Fn) : Fn := fun i j => if i = c then g8 (A c j) f else A i j
def sclc (c : Nat) (f : UInt8) (Z : Fn) : Fn := fun i j => if j = c then g8 (Z i c) f else Z i j
/-- All rows but c: g i times row c is added. -/
def clr (c : Nat) (g : Nat → UInt8) (A : Fn) : Fn := fun i j => if i = c then A i j else A i j ^^^ g8 (A c j) (g i)
def clrc (n c : Nat) (g : Nat → UInt8) (Z : Fn) : Fn := fun i j => if j = c then sm n (fun k => if k = c then Z i c else g8 (Z i k) (g k)) else Z i j

theorem swp_mul (n c p : Nat) (A B : Fn) (i j : Nat) : mul n (swp c p A) B i j = swp c p (mul n A B) i j := by
  unfold swp mul
  by_cases h : i = c
  · simp [h]
  · by_cases h2 : i = p
    · simp [h2]
      by_cases h3 : p = c <;> simp [h3]
    · simp [h, h2]
theorem scl_mul (n c : Nat) (f : UInt8) (A B : Fn) (i j : Nat) : mul n (scl c f A) B i j = scl c f (mul n A B) i j := by
  unfold scl mul
  by_cases h : i = c
  · simp only [h, if_true]
    rw [sm_mul]
    exact sm_congr n fun k _ => (g8_assoc _ _ _).symm
  · simp [h]
theorem clr_mul (n c : Nat) (g : Nat → UInt8) (A B : Fn) (i j : Nat) : mul n (clr c g A) B i j = clr c g (mul n A B) i j := by
  unfold clr mul
  by_cases h : i = c
  · simp [h]
  · simp only [h, if_false]
    rw [sm_mul, ← sm_xor]
    exact sm_congr n fun k _ => by rw [g8_xor, g8_assoc]
theorem swpc_mul (n c p : Nat) (hc : c < n) (hp : p < n) (Z X : Fn) (i j : Nat) : mul n (swpc c p Z) (swp c p X) i j = mul n Z X i j := by
  by_cases e : c = p
  · subst e
    refine sm_congr n fun k _ => ?_
    unfold swp swpc
    by_cases h : k = c <;> simp [h]
  · unfold mul
    rw [sm_two n _ c p hc hp e, sm_two n (fun k => g8 (X k j) (Z i k)) c p hc hp e]
    congr 1
    · unfold swp swpc
      simp only [if_true, if_neg (fun h => e (h : p = c).symm)]
      rw [xcomm]
    · refine sm_congr n fun k _ => ?_
      by_cases h : k = c ∨ k = p
      · rw [if_pos h, if_pos h]
      · rw [if_neg h, if_neg h]
        unfold swp swpc
        rw [if_neg (fun e => h (.inl e)), if_neg (fun e => h (.inr e)), if_neg (fun e => h (.inl e)), if_neg (fun e => h (.inr e))]
theorem sclc_mul (n c : Nat) (f f' : UInt8) (hf : g8 f f' = 1) (Z X : Fn) (i j : Nat) : mul n (sclc c f' Z) (scl c f X) i j = mul n Z X i j := by
  refine sm_congr n fun k _ => ?_
  unfold scl sclc
  by_cases h : k = c
  · subst h
    rw [if_pos rfl, if_pos rfl, g8_assoc, ← g8_assoc f, g8_comm f, g8_assoc, hf, g8_one]
  · rw [if_neg h, if_neg h]
theorem clrc_mul (n c : Nat) (hc : c < n) (g : Nat → UInt8) (Z X : Fn) (i j : Nat) : mul n (clrc n c g Z) (clr c g X) i j = mul n Z X i j := by
  -- the sum over the others is taken out of the place c
  have e1 : mul n (clrc n c g Z) (clr c g X) i j = sm n (fun k => (if k = c then g8 (X c j) (sm n (fun l => if l = c then Z i c else g8 (Z i l) (g l))) else 0) ^^^ (if k = c then 0 else g8 (X k j) (Z i k) ^^^ g8 (X c j) (g8 (Z i k) (g k)))) := by
    refine sm_congr n fun k _ => ?_
    unfold clr clrc
    by_cases h : k = c
    · subst h; rw [if_pos rfl, if_pos rfl, if_pos rfl, if_pos rfl, xzero]
    · rw [if_neg h, if_neg h, if_neg h, if_neg h, zerox, g8_xor_left, g8_assoc, g8_comm (g k)]
  have e2 : sm n (fun l => if l = c then Z i c else g8 (Z i l) (g l)) = Z i c ^^^ sm n (fun l => if l = c then 0 else g8 (Z i l) (g l)) := by
    have : sm n (fun l => if l = c then Z i c else g8 (Z i l) (g l)) = sm n (fun l => (if l = c then Z i c else 0) ^^^ (if l = c then 0 else g8 (Z i l) (g l))) := by
      refine sm_congr n fun l _ => ?_
      by_cases h : l = c
      · rw [if_pos h, if_pos h, if_pos h, xzero]
      · rw [if_neg h, if_neg h, if_neg h, zerox]
    rw [this, sm_xor, sm_one n _ c hc (fun l _ h => if_neg h), if_pos rfl]
  have e3 : sm n (fun k => if k = c then 0 else g8 (X k j) (Z i k) ^^^ g8 (X c j) (g8 (Z i k) (g k))) = sm n (fun k => if k = c then 0 else g8 (X k j) (Z i k)) ^^^ g8 (X c j) (sm n (fun l => if l = c then 0 else g8 (Z i l) (g l))) := by
    rw [sm_mul_left, ← sm_xor]
    refine sm_congr n fun k _ => ?_
    by_cases h : k = c
    · rw [if_pos h, if_pos h, if_pos h, g8_zero]; rfl
    · rw [if_neg h, if_neg h, if_neg h]
  have e4 : mul n Z X i j = g8 (X c j) (Z i c) ^^^ sm n (fun k => if k = c then 0 else g8 (X k j) (Z i k)) := by
    have : mul n Z X i j = sm n (fun k => (if k = c then g8 (X c j) (Z i c) else 0) ^^^ (if k = c then 0 else g8 (X k j) (Z i k))) := by
      refine sm_congr n fun k _ => ?_
      by_cases h : k = c
      · subst h; rw [if_pos rfl, if_pos rfl, xzero]
      · rw [if_neg h, if_neg h, zerox]
    rw [this, sm_xor, sm_one n _ c hc (fun l _ h => if_neg h), if_pos rfl]
  rw [e1, sm_xor, sm_one n _ c hc (fun l _ h => if_neg h), if_pos rfl, e2, e3, e4, g8_xor, xfour, xself, xzero]
end Go.Proofs.Ytdmdcgcmappliaa.Mat
