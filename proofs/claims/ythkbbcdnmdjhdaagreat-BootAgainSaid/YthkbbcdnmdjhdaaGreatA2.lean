/-
  Sums, products and inverses of matrices over the field, in plain Lean, entry by entry. No program in sight.
  Gauss and Jordan by entries: what a step keeps, what comes out, and why there is a way where rows are free. No program in sight.
  Matrices as lists of rows: product, unit, powers, inverse, as the code makes them; and what they are, entry by entry. No program in sight.
  What products, inverses, powers and the systematic matrix answer, in plain Lean. No program in sight.
  Plain facts that the walks of matrices need. No statement about the program.
-/
import Derived.Test.YthkbbcdnmdjhdaaGreatA1
/-! XMatPure: Sums, products and inverses of matrices over the field, in plain Lean, entry by entry. No program in sight. -/
namespace Go.Proofs.YthkbbcdnmdjhdaaGreat.Mat
open Go.Proofs.YthkbbcdnmdjhdaaGreat.Gf

theorem u8_ext {x y : UInt8} (h : x.toNat = y.toNat) : x = y := UInt8.toNat_inj.1 h
theorem g8_comm (x y : UInt8) : g8 x y = g8 y x := u8_ext (by rw [g8_toNat, g8_toNat, gmul_comm _ _ (u8lt x) (u8lt y)])
theorem g8_assoc (x y z : UInt8) : g8 (g8 x y) z = g8 x (g8 y z) := u8_ext (by rw [g8_toNat, g8_toNat, g8_toNat, g8_toNat, gmul_assoc _ _ _ (u8lt x) (u8lt y) (u8lt z)])
theorem g8_xor (x y z : UInt8) : g8 x (y ^^^ z) = g8 x y ^^^ g8 x z := u8_ext (by rw [UInt8.toNat_xor, g8_toNat, g8_toNat, g8_toNat, UInt8.toNat_xor, gmul_xor])
theorem g8_xor_left (x y z : UInt8) : g8 (x ^^^ y) z = g8 x z ^^^ g8 y z := by rw [g8_comm, g8_xor, g8_comm z, g8_comm z]
theorem g8_zero (x : UInt8) : g8 x 0 = 0 := u8_ext (by rw [g8_toNat]; exact gmul_zero_right _)
theorem g8_zero_left (x : UInt8) : g8 0 x = 0 := by rw [g8_comm, g8_zero]
theorem g8_one (x : UInt8) : g8 x 1 = x := u8_ext (by rw [g8_toNat]; exact gmul_one _ (u8lt x))
theorem g8_one_left (x : UInt8) : g8 1 x = x := by rw [g8_comm, g8_one]
/-- The inverse. -/
def gi (x : UInt8) : UInt8 := UInt8.ofNat (ex (255 - lg x.toNat))
theorem ne_toNat {x : UInt8} (h : x ≠ 0) : x.toNat ≠ 0 := fun h' => h (u8_ext h')
theorem gi_toNat (x : UInt8) : (gi x).toNat = ex (255 - lg x.toNat) := by
  unfold gi
  rw [UInt8.toNat_ofNat']
  exact Nat.mod_eq_of_lt (ex_lt _)
theorem g8_gi {x : UInt8} (h : x ≠ 0) : g8 x (gi x) = 1 := by
  have h0 := ne_toNat h
  have hl := lg_lt _ (u8lt x)
  have e : gmul x.toNat (ex (255 - lg x.toNat)) = 1 := by
    conv => lhs; rw [← ex_lg x.toNat (u8lt x) h0]
    rw [lg_ex, Nat.mod_eq_of_lt hl, gmul_ex_ex, show lg x.toNat + (255 - lg x.toNat) = 255 by omega]
    decide
  exact u8_ext (by rw [g8_toNat, gi_toNat, e]; rfl)
theorem g8_ne_zero {x y : UInt8} (hx : x ≠ 0) (hy : y ≠ 0) : g8 x y ≠ 0 := fun h => by
  have := congrArg UInt8.toNat h
  rw [g8_toNat] at this
  exact gmul_ne_zero _ _ (u8lt x) (u8lt y) (ne_toNat hx) (ne_toNat hy) this
theorem xself (x : UInt8) : x ^^^ x = 0 := by simp
theorem xzero (x : UInt8) : x ^^^ 0 = x := by simp
theorem zerox (x : UInt8) : 0 ^^^ x = x := by simp
theorem xcomm (x y : UInt8) : x ^^^ y = y ^^^ x := UInt8.xor_comm x y
theorem xassoc (x y z : UInt8) : (x ^^^ y) ^^^ z = x ^^^ (y ^^^ z) := UInt8.xor_assoc x y z
theorem xfour (a b c d : UInt8) : (a ^^^ b) ^^^ (c ^^^ d) = (a ^^^ c) ^^^ (b ^^^ d) := by
  rw [xassoc, xassoc, ← xassoc b c d, xcomm b c, xassoc c b d]
theorem xtwice (a b : UInt8) : (a ^^^ b) ^^^ b = a := by rw [xassoc, xself, xzero]
theorem x_eq_zero {a b : UInt8} (h : a ^^^ b = 0) : a = b := by
  have := congrArg (· ^^^ b) h
  simp only [xtwice, zerox] at this
  exact this

/-- The sum of the first n. -/
def sm : Nat → (Nat → UInt8) → UInt8
  | 0, _ => 0
  | n + 1, f => sm n f ^^^ f n
theorem sm_congr : ∀ (n : Nat) {f g : Nat → UInt8}, (∀ i, i < n → f i = g i) → sm n f = sm n g
  | 0, _, _, _ => rfl
  | n + 1, f, g, h => by unfold sm; rw [sm_congr n (fun i hi => h i (by omega)), h n (by omega)]
theorem sm_zero : ∀ n : Nat, sm n (fun _ => 0) = 0
  | 0 => rfl
  | n + 1 => by unfold sm; rw [sm_zero n]; exact xself 0
theorem sm_xor : ∀ (n : Nat) (f g : Nat → UInt8), sm n (fun i => f i ^^^ g i) = sm n f ^^^ sm n g
  | 0, _, _ => (xself 0).symm
  | n + 1, f, g => by unfold sm; rw [sm_xor n, xfour]
theorem sm_mul (c : UInt8) : ∀ (n : Nat) (f : Nat → UInt8), g8 (sm n f) c = sm n (fun i => g8 (f i) c)
  | 0, _ => g8_zero_left c
  | n + 1, f => by unfold sm; rw [g8_xor_left, sm_mul c n]
theorem sm_mul_left (c : UInt8) (n : Nat) (f : Nat → UInt8) : g8 c (sm n f) = sm n (fun i => g8 c (f i)) := by
  rw [g8_comm, sm_mul]; exact sm_congr n fun i _ => g8_comm _ _
theorem sm_swap : ∀ (n m : Nat) (f : Nat → Nat → UInt8), sm n (fun i => sm m (fun j => f i j)) = sm m (fun j => sm n (fun i => f i j))
  | 0, m, f => by rw [show (fun j => sm 0 (fun i => f i j)) = fun _ => 0 from rfl, sm_zero]; rfl
  | n + 1, m, f => by
    show sm n _ ^^^ sm m _ = sm m (fun j => sm n _ ^^^ f n j)
    rw [sm_xor, sm_swap n m f]
theorem sm_one : ∀ (n : Nat) (f : Nat → UInt8) (k : Nat), k < n → (∀ i, i < n → i ≠ k → f i = 0) → sm n f = f k
  | 0, _, _, h, _ => by omega
  | n + 1, f, k, h, hz => by
    unfold sm
    by_cases e : k = n
    · subst e
      rw [sm_congr k (g := fun _ => 0) (fun i hi => hz i (by omega) (by omega)), sm_zero, zerox]
    · rw [sm_one n f k (by omega) (fun i hi => hz i (by omega)), hz n (by omega) (fun h => e h.symm), xzero]
theorem sm_none (n : Nat) (f : Nat → UInt8) (h : ∀ i, i < n → f i = 0) : sm n f = 0 := by rw [sm_congr n h, sm_zero]
/-- A sum in which two places are handed over. -/
theorem sm_two (n : Nat) (f : Nat → UInt8) (p q : Nat) (hp : p < n) (hq : q < n) (hpq : p ≠ q) : sm n f = f p ^^^ f q ^^^ sm n (fun i => if i = p ∨ i = q then 0 else f i) := by
  have e : sm n f = sm n (fun i => ((if i = p then f p else 0) ^^^ (if i = q then f q else 0)) ^^^ (if i = p ∨ i = q then 0 else f i)) := by
    refine sm_congr n fun i _ => ?_
    by_cases h1 : i = p
    · subst h1; rw [if_pos rfl, if_neg hpq, if_pos (.inl rfl), xzero, xzero]
    · by_cases h2 : i = q
      · subst h2; rw [if_neg h1, if_pos rfl, if_pos (.inr rfl), xzero, zerox]
      · rw [if_neg h1, if_neg h2, if_neg (by simp [h1, h2]), zerox, zerox]
  rw [e, sm_xor, sm_xor]
  congr 2
  · rw [sm_one n _ p hp (fun i _ h => if_neg h), if_pos rfl]
  · rw [sm_one n _ q hq (fun i _ h => if_neg h), if_pos rfl]

abbrev Fn := Nat → Nat → UInt8
/-- The product, by entries; n is the middle side. -/
def mul (n : Nat) (A B : Fn) : Fn := fun i j => sm n fun k => g8 (B k j) (A i k)
def one : Fn := fun i j => if i = j then 1 else 0
theorem mul_assoc (n m : Nat) (A B C : Fn) (i j : Nat) : mul m (mul n A B) C i j = mul n A (mul m B C) i j := by
  show sm m (fun k => g8 (C k j) (sm n fun l => g8 (B l k) (A i l))) = sm n (fun l => g8 (sm m fun k => g8 (C k j) (B l k)) (A i l))
  rw [sm_congr m (fun k _ => sm_mul_left _ n _), sm_swap, sm_congr n]
  intro l _
  rw [sm_mul]
  exact sm_congr m fun k _ => (g8_assoc _ _ _).symm
theorem mul_congr (n : Nat) {A A' B B' : Fn} (i j : Nat) (hA : ∀ k, k < n → A i k = A' i k) (hB : ∀ k, k < n → B k j = B' k j) : mul n A B i j = mul n A' B' i j :=
  sm_congr n fun k hk => by rw [hA k hk, hB k hk]
theorem one_mul (n : Nat) (A : Fn) (i j : Nat) (hi : i < n) : mul n one A i j = A i j := by
  show sm n (fun k => g8 (A k j) (one i k)) = _
  rw [sm_one n _ i hi (fun k _ h => by unfold one; rw [if_neg (fun e => h e.symm), g8_zero])]
  unfold one; rw [if_pos rfl, g8_one]
theorem mul_one (n : Nat) (A : Fn) (i j : Nat) (hj : j < n) : mul n A one i j = A i j := by
  show sm n (fun k => g8 (one k j) (A i k)) = _
  rw [sm_one n _ j hj (fun k _ h => by unfold one; rw [if_neg h, g8_zero_left])]
  unfold one; rw [if_pos rfl, g8_one_left]

/-- Rows' swap, scaling and adding, and what undoes them on the columns of the left factor. -/
def swp (c p : Nat) (A : Fn) : Fn := fun i j => if i = c then A p j else if i = p then A c j else A i j
def swpc (c p : Nat) (Z : Fn) : Fn := fun i j => if j = c then Z i p else if j = p then Z i c else Z i j
def scl (c : Nat) (f : UInt8) (A : Fn) : Fn := fun i j => if i = c then g8 (A c j) f else A i j
def sclc (c : Nat) (f : UInt8) (Z : Fn) : Fn := fun i j => if j = c then g8 (Z i c) f else Z i j
/-- All rows but c: g i times row c is added. -/
def clr (c : Nat) (g : Nat → UInt8) (A : Fn) : Fn := fun i j => if i = c then A i j else A i j ^^^ g8 (A c j) (g i)
def clrc (n c : Nat) (g : Nat → UInt8) (Z : Fn) : Fn := fun i j => if j = c then sm n (fun k => if k = c then Z i c else g8 (Z i k) (g k)) else Z i j

theorem swp_mul (n c p : Nat) (A B : Fn) (i j : Nat) : mul n (swp c p A) B i j = swp c p (mul n A B) i j := by
  unfold swp mul
  by_cases h : i = c
  · simp [h]
  · by_cases h2 : i = p
    · simp [h2]
      by_cases h3 : p = c <;> simp [h3]
    · simp [h, h2]
theorem scl_mul (n c : Nat) (f : UInt8) (A B : Fn) (i j : Nat) : mul n (scl c f A) B i j = scl c f (mul n A B) i j := by
  unfold scl mul
  by_cases h : i = c
  · simp only [h, if_true]
    rw [sm_mul]
    exact sm_congr n fun k _ => (g8_assoc _ _ _).symm
  · simp [h]
theorem clr_mul (n c : Nat) (g : Nat → UInt8) (A B : Fn) (i j : Nat) : mul n (clr c g A) B i j = clr c g (mul n A B) i j := by
  unfold clr mul
  by_cases h : i = c
  · simp [h]
  · simp only [h, if_false]
    rw [sm_mul, ← sm_xor]
    exact sm_congr n fun k _ => by rw [g8_xor, g8_assoc]
theorem swpc_mul (n c p : Nat) (hc : c < n) (hp : p < n) (Z X : Fn) (i j : Nat) : mul n (swpc c p Z) (swp c p X) i j = mul n Z X i j := by
  by_cases e : c = p
  · subst e
    refine sm_congr n fun k _ => ?_
    unfold swp swpc
    by_cases h : k = c <;> simp [h]
  · unfold mul
    rw [sm_two n _ c p hc hp e, sm_two n (fun k => g8 (X k j) (Z i k)) c p hc hp e]
    congr 1
    · unfold swp swpc
      simp only [if_true, if_neg (fun h => e (h : p = c).symm)]
      rw [xcomm]
    · refine sm_congr n fun k _ => ?_
      by_cases h : k = c ∨ k = p
      · rw [if_pos h, if_pos h]
      · rw [if_neg h, if_neg h]
        unfold swp swpc
        rw [if_neg (fun e => h (.inl e)), if_neg (fun e => h (.inr e)), if_neg (fun e => h (.inl e)), if_neg (fun e => h (.inr e))]
theorem sclc_mul (n c : Nat) (f f' : UInt8) (hf : g8 f f' = 1) (Z X : Fn) (i j : Nat) : mul n (sclc c f' Z) (scl c f X) i j = mul n Z X i j := by
  refine sm_congr n fun k _ => ?_
  unfold scl sclc
  by_cases h : k = c
  · subst h
    rw [if_pos rfl, if_pos rfl, g8_assoc, ← g8_assoc f, g8_comm f, g8_assoc, hf, g8_one]
  · rw [if_neg h, if_neg h]
theorem clrc_mul (n c : Nat) (hc : c < n) (g : Nat → UInt8) (Z X : Fn) (i j : Nat) : mul n (clrc n c g Z) (clr c g X) i j = mul n Z X i j := by
  -- the sum over the others is taken out of the place c
  have e1 : mul n (clrc n c g Z) (clr c g X) i j = sm n (fun k => (if k = c then g8 (X c j) (sm n (fun l => if l = c then Z i c else g8 (Z i l) (g l))) else 0) ^^^ (if k = c then 0 else g8 (X k j) (Z i k) ^^^ g8 (X c j) (g8 (Z i k) (g k)))) := by
    refine sm_congr n fun k _ => ?_
    unfold clr clrc
    by_cases h : k = c
    · subst h; rw [if_pos rfl, if_pos rfl, if_pos rfl, if_pos rfl, xzero]
    · rw [if_neg h, if_neg h, if_neg h, if_neg h, zerox, g8_xor_left, g8_assoc, g8_comm (g k)]
  have e2 : sm n (fun l => if l = c then Z i c else g8 (Z i l) (g l)) = Z i c ^^^ sm n (fun l => if l = c then 0 else g8 (Z i l) (g l)) := by
    have : sm n (fun l => if l = c then Z i c else g8 (Z i l) (g l)) = sm n (fun l => (if l = c then Z i c else 0) ^^^ (if l = c then 0 else g8 (Z i l) (g l))) := by
      refine sm_congr n fun l _ => ?_
      by_cases h : l = c
      · rw [if_pos h, if_pos h, if_pos h, xzero]
      · rw [if_neg h, if_neg h, if_neg h, zerox]
    rw [this, sm_xor, sm_one n _ c hc (fun l _ h => if_neg h), if_pos rfl]
  have e3 : sm n (fun k => if k = c then 0 else g8 (X k j) (Z i k) ^^^ g8 (X c j) (g8 (Z i k) (g k))) = sm n (fun k => if k = c then 0 else g8 (X k j) (Z i k)) ^^^ g8 (X c j) (sm n (fun l => if l = c then 0 else g8 (Z i l) (g l))) := by
    rw [sm_mul_left, ← sm_xor]
    refine sm_congr n fun k _ => ?_
    by_cases h : k = c
    · rw [if_pos h, if_pos h, if_pos h, g8_zero]; rfl
    · rw [if_neg h, if_neg h, if_neg h]
  have e4 : mul n Z X i j = g8 (X c j) (Z i c) ^^^ sm n (fun k => if k = c then 0 else g8 (X k j) (Z i k)) := by
    have : mul n Z X i j = sm n (fun k => (if k = c then g8 (X c j) (Z i c) else 0) ^^^ (if k = c then 0 else g8 (X k j) (Z i k))) := by
      refine sm_congr n fun k _ => ?_
      by_cases h : k = c
      · subst h; rw [if_pos rfl, if_pos rfl, xzero]
      · rw [if_neg h, if_neg h, zerox]
    rw [this, sm_xor, sm_one n _ c hc (fun l _ h => if_neg h), if_pos rfl]
  rw [e1, sm_xor, sm_one n _ c hc (fun l _ h => if_neg h), if_pos rfl, e2, e3, e4, g8_xor, xfour, xself, xzero]
end Go.Proofs.YthkbbcdnmdjhdaaGreat.Mat
/-! XMatInv: Gauss and Jordan by entries: what a step keeps, what comes out, and why there is a way where rows are free. No program in sight. -/
namespace Go.Proofs.YthkbbcdnmdjhdaaGreat.Mat
open Go.Proofs.YthkbbcdnmdjhdaaGreat.Gf

def EqOn (n m : Nat) (A B : Fn) : Prop := ∀ i, i < n → ∀ j, j < m → A i j = B i j
theorem EqOn.refl (n m : Nat) (A : Fn) : EqOn n m A A := fun _ _ _ _ => rfl
theorem EqOn.symm {n m : Nat} {A B : Fn} (h : EqOn n m A B) : EqOn n m B A := fun i hi j hj => (h i hi j hj).symm
theorem EqOn.trans {n m : Nat} {A B C : Fn} (h : EqOn n m A B) (k : EqOn n m B C) : EqOn n m A C := fun i hi j hj => (h i hi j hj).trans (k i hi j hj)
theorem EqOn.mul {n k m : Nat} {A A' B B' : Fn} (h : EqOn n k A A') (g : EqOn k m B B') : EqOn n m (mul k A B) (mul k A' B') :=
  fun i hi j hj => mul_congr k i j (fun l hl => h i hi l hl) (fun l hl => g l hl j hj)
theorem EqOn.assoc (n k l m : Nat) (A B C : Fn) : EqOn n m (Mat.mul l (Mat.mul k A B) C) (Mat.mul k A (Mat.mul l B C)) := fun i _ j _ => mul_assoc k l A B C i j
theorem EqOn.one_mul (n m : Nat) (A : Fn) : EqOn n m (Mat.mul n one A) A := fun i hi j _ => Mat.one_mul n A i j hi
theorem EqOn.mul_one (n m : Nat) (A : Fn) : EqOn n m (Mat.mul m A one) A := fun i _ j hj => Mat.mul_one m A i j hj

theorem swp_on {n : Nat} {A B : Fn} {c p : Nat} (hc : c < n) (hp : p < n) (h : EqOn n n A B) : EqOn n n (swp c p A) (swp c p B) := by
  intro i hi j hj
  unfold swp
  by_cases e : i = c
  · rw [if_pos e, if_pos e, h p hp j hj]
  · rw [if_neg e, if_neg e]
    by_cases e2 : i = p
    · rw [if_pos e2, if_pos e2, h c hc j hj]
    · rw [if_neg e2, if_neg e2, h i hi j hj]
theorem scl_on {n : Nat} {A B : Fn} {c : Nat} {f : UInt8} (hc : c < n) (h : EqOn n n A B) : EqOn n n (scl c f A) (scl c f B) := by
  intro i hi j hj
  unfold scl
  rw [h c hc j hj, h i hi j hj]
theorem clr_on {n : Nat} {A B : Fn} {c : Nat} {g : Nat → UInt8} (hc : c < n) (h : EqOn n n A B) : EqOn n n (clr c g A) (clr c g B) := by
  intro i hi j hj
  unfold clr
  rw [h c hc j hj, h i hi j hj]

/-- What holds of the two halves: X = Y A; A = Z X for a Z that Y undoes. -/
def Kept (n : Nat) (A X Y : Fn) : Prop := EqOn n n X (mul n Y A) ∧ ∃ Z, EqOn n n A (mul n Z X) ∧ EqOn n n (mul n Z Y) one
theorem Kept.start (n : Nat) (A : Fn) : Kept n A A one :=
  ⟨(EqOn.one_mul n n A).symm, one, (EqOn.one_mul n n A).symm, EqOn.one_mul n n one⟩
theorem Kept.on {n : Nat} {A X Y X' Y' : Fn} (h : Kept n A X Y) (hX : EqOn n n X' X) (hY : EqOn n n Y' Y) : Kept n A X' Y' := by
  obtain ⟨h1, Z, h2, h3⟩ := h
  refine ⟨hX.trans (h1.trans (EqOn.mul hY.symm (EqOn.refl _ _ _))), Z, h2.trans (EqOn.mul (EqOn.refl _ _ _) hX.symm), ?_⟩
  exact (EqOn.mul (EqOn.refl _ _ _) hY).trans h3
theorem Kept.swp {n : Nat} {A X Y : Fn} (h : Kept n A X Y) {c p : Nat} (hc : c < n) (hp : p < n) : Kept n A (swp c p X) (swp c p Y) := by
  obtain ⟨h1, Z, h2, h3⟩ := h
  refine ⟨(swp_on hc hp h1).trans fun i _ j _ => (swp_mul n c p Y A i j).symm, swpc c p Z, h2.trans fun i _ j _ => (swpc_mul n c p hc hp Z X i j).symm, ?_⟩
  exact EqOn.trans (fun i _ j _ => swpc_mul n c p hc hp Z Y i j) h3
theorem Kept.scl {n : Nat} {A X Y : Fn} (h : Kept n A X Y) {c : Nat} {f f' : UInt8} (hc : c < n) (hf : g8 f f' = 1) : Kept n A (scl c f X) (scl c f Y) := by
  obtain ⟨h1, Z, h2, h3⟩ := h
  refine ⟨(scl_on hc h1).trans fun i _ j _ => (scl_mul n c f Y A i j).symm, sclc c f' Z, h2.trans fun i _ j _ => (sclc_mul n c f f' hf Z X i j).symm, ?_⟩
  exact EqOn.trans (fun i _ j _ => sclc_mul n c f f' hf Z Y i j) h3
theorem Kept.clr {n : Nat} {A X Y : Fn} (h : Kept n A X Y) {c : Nat} (hc : c < n) (g : Nat → UInt8) : Kept n A (clr c g X) (clr c g Y) := by
  obtain ⟨h1, Z, h2, h3⟩ := h
  refine ⟨(clr_on hc h1).trans fun i _ j _ => (clr_mul n c g Y A i j).symm, clrc n c g Z, h2.trans fun i _ j _ => (clrc_mul n c hc g Z X i j).symm, ?_⟩
  exact EqOn.trans (fun i _ j _ => clrc_mul n c hc g Z Y i j) h3

/-- The columns ahead of c are the unit's. -/
def Done (n c : Nat) (X : Fn) : Prop := ∀ i, i < n → ∀ j, j < c → X i j = one i j
theorem Done.step {n c p : Nat} {X : Fn} (h : Done n c X) (hc : c < n) (hp : p < n) (hcp : c ≤ p) (hx : X p c ≠ 0) :
    let X1 := swp c p X
    let X2 := scl c (gi (X1 c c)) X1
    Done n (c + 1) (clr c (fun i => X2 i c) X2) := by
  intro X1 X2 i hi j hj
  have x1c : X1 c c = X p c := by show swp c p X c c = _; unfold swp; rw [if_pos rfl]
  have x2c : X2 c c = 1 := by show scl c _ X1 c c = _; unfold scl; rw [if_pos rfl, x1c, g8_gi hx]
  have low : ∀ i, i < n → ∀ j, j < c → X2 i j = one i j := by
    intro i hi j hj
    have z1 : X c j = 0 := by rw [h c hc j hj]; unfold one; rw [if_neg (by omega)]
    have z2 : X p j = 0 := by rw [h p hp j hj]; unfold one; rw [if_neg (by omega)]
    have y1 : ∀ i, i < n → X1 i j = one i j := by
      intro i hi
      show swp c p X i j = _
      unfold swp
      by_cases e : i = c
      · rw [if_pos e, z2, e]; unfold one; rw [if_neg (by omega)]
      · rw [if_neg e]
        by_cases e2 : i = p
        · rw [if_pos e2, z1, e2]; unfold one; rw [if_neg (by omega)]
        · rw [if_neg e2, h i hi j hj]
    show scl c _ X1 i j = _
    unfold scl
    by_cases e : i = c
    · rw [if_pos e, y1 c hc, e]
      unfold one
      rw [if_neg (by omega), g8_zero_left]
    · rw [if_neg e, y1 i hi]
  show clr c _ X2 i j = _
  unfold clr
  by_cases e : i = c
  · rw [if_pos e]
    by_cases e2 : j = c
    · rw [e, e2, x2c]; unfold one; rw [if_pos rfl]
    · exact low i hi j (by omega)
  · rw [if_neg e]
    by_cases e2 : j = c
    · rw [e2, x2c, g8_one_left, xself]; unfold one; rw [if_neg e]
    · rw [low i hi j (by omega), low c hc j (by omega)]
      have : one c j = 0 := by unfold one; rw [if_neg (by omega)]
      rw [this, g8_zero_left, xzero]

/-- Only nought is sent to nought. -/
def Free (n : Nat) (A : Fn) : Prop := ∀ v : Nat → UInt8, (∀ i, i < n → sm n (fun k => g8 (v k) (A i k)) = 0) → ∀ k, k < n → v k = 0
theorem Free.on {n : Nat} {A B : Fn} (h : Free n A) (e : EqOn n n A B) : Free n B := fun v hv => h v fun i hi => by
  rw [← hv i hi]; exact sm_congr n fun k hk => by rw [e i hi k hk]
theorem apply_mul (n : Nat) (A B : Fn) (v : Nat → UInt8) (i : Nat) : sm n (fun k => g8 (v k) (mul n A B i k)) = sm n (fun l => g8 (sm n fun k => g8 (v k) (B l k)) (A i l)) := by
  have := mul_assoc n n A B (fun k _ => v k) i 0
  exact this
theorem Free.of_left {n : Nat} {L A : Fn} (h : EqOn n n (mul n L A) one) : Free n A := by
  intro v hv k hk
  have e : sm n (fun j => g8 (v j) (mul n L A k j)) = 0 := by
    rw [apply_mul]
    exact sm_none n _ fun l hl => by rw [hv l hl, g8_zero_left]
  have e2 : sm n (fun j => g8 (v j) (mul n L A k j)) = v k := by
    rw [sm_congr n (g := fun j => g8 (v j) (one k j)) (fun j hj => by rw [h k hk j hj])]
    exact Mat.mul_one n (fun _ j => v j) 0 k hk ▸ (by
      rw [sm_one n _ k hk (fun j _ hj => by unfold one; rw [if_neg (fun e => hj e.symm), g8_zero])]
      rw [Mat.mul_one n (fun _ j => v j) 0 k hk]
      unfold one; rw [if_pos rfl, g8_one])
  rw [← e2, e]
theorem Free.mul {n : Nat} {A B : Fn} (hA : Free n A) (hB : Free n B) : Free n (mul n A B) := by
  intro v hv
  refine hB v fun l hl => ?_
  exact hA (fun l => sm n fun k => g8 (v k) (B l k)) (fun i hi => by rw [← apply_mul]; exact hv i hi) l hl
/-- Where no row from c on has something in column c, the matrix is not free. -/
theorem stuck {n c : Nat} {A X Y : Fn} (hk : Kept n A X Y) (hd : Done n c X) (hc : c < n) (hz : ∀ p, c ≤ p → p < n → X p c = 0) : ¬ Free n A := by
  intro hf
  obtain ⟨_, Z, h2, _⟩ := hk
  let v : Nat → UInt8 := fun k => if k = c then 1 else if k < c then X k c else 0
  have hX : ∀ i, i < n → sm n (fun k => g8 (v k) (X i k)) = 0 := by
    intro i hi
    by_cases hic : i < c
    · rw [sm_two n _ i c hi hc (by omega)]
      have e1 : g8 (v i) (X i i) = X i c := by
        show g8 (if i = c then 1 else if i < c then X i c else 0) _ = _
        rw [if_neg (by omega), if_pos hic, hd i hi i hic]
        unfold one; rw [if_pos rfl, g8_one]
      have e2 : g8 (v c) (X i c) = X i c := by
        show g8 (if c = c then 1 else _) _ = _
        rw [if_pos rfl, g8_one_left]
      rw [e1, e2, xself, zerox]
      refine sm_none n _ fun k hk => ?_
      by_cases e : k = i ∨ k = c
      · rw [if_pos e]
      · rw [if_neg e]
        by_cases hkc : k < c
        · rw [hd i hi k hkc]
          unfold one; rw [if_neg (fun h => e (.inl h.symm)), g8_zero]
        · have : v k = 0 := by
            show (if k = c then 1 else if k < c then X k c else 0) = (0 : UInt8)
            rw [if_neg (fun h => e (.inr h)), if_neg hkc]
          rw [this, g8_zero_left]
    · refine sm_none n _ fun k hk => ?_
      by_cases hkc : k < c
      · rw [hd i hi k hkc]
        unfold one; rw [if_neg (by omega), g8_zero]
      · by_cases e : k = c
        · rw [e, hz i (by omega) hi, g8_zero]
        · have : v k = 0 := by
            show (if k = c then 1 else if k < c then X k c else 0) = (0 : UInt8)
            rw [if_neg e, if_neg hkc]
          rw [this, g8_zero_left]
  have hA : ∀ i, i < n → sm n (fun k => g8 (v k) (A i k)) = 0 := by
    intro i hi
    rw [sm_congr n (g := fun k => g8 (v k) (Mat.mul n Z X i k)) (fun k hk => by rw [h2 i hi k hk]), apply_mul]
    exact sm_none n _ fun l hl => by rw [hX l hl, g8_zero_left]
  have := hf v hA c hc
  have e : v c = 1 := by show (if c = c then (1 : UInt8) else _) = 1; rw [if_pos rfl]
  rw [e] at this
  exact absurd this (by decide)
theorem Kept.fin {n : Nat} {A X Y : Fn} (h : Kept n A X Y) (hd : Done n n X) : EqOn n n (mul n Y A) one ∧ EqOn n n (mul n A Y) one := by
  obtain ⟨h1, Z, h2, h3⟩ := h
  have hX : EqOn n n X one := hd
  refine ⟨h1.symm.trans hX, ?_⟩
  have hZ : EqOn n n A Z := h2.trans ((EqOn.mul (EqOn.refl _ _ _) hX).trans (EqOn.mul_one n n Z))
  exact (EqOn.mul hZ (EqOn.refl _ _ _)).trans h3
theorem inv_unique {n : Nat} {A Y Y' : Fn} (h : EqOn n n (mul n Y A) one) (k : EqOn n n (mul n A Y') one) : EqOn n n Y Y' := by
  have e1 : EqOn n n (Mat.mul n Y (Mat.mul n A Y')) Y := (EqOn.mul (EqOn.refl _ _ _) k).trans (EqOn.mul_one n n Y)
  have e2 : EqOn n n (Mat.mul n (Mat.mul n Y A) Y') Y' := (EqOn.mul h (EqOn.refl _ _ _)).trans (EqOn.one_mul n n Y')
  exact e1.symm.trans ((EqOn.assoc n n n n Y A Y').symm.trans e2)

/-- A polynomial by its coefficients, the least first. -/
def ev : List UInt8 → UInt8 → UInt8
  | [], _ => 0
  | a :: l, x => a ^^^ g8 (ev l x) x
/-- .. divided by (x + r). -/
def dv (r : UInt8) : List UInt8 → List UInt8
  | [] => []
  | [_] => []
  | _ :: b :: l => ev (b :: l) r :: dv r (b :: l)
theorem dv_len (r : UInt8) : ∀ (a : UInt8) (l : List UInt8), (dv r (a :: l)).length = l.length
  | _, [] => rfl
  | _, b :: l => by show (dv r (b :: l)).length + 1 = _; rw [dv_len r b l]; rfl
theorem ev_dv (r x : UInt8) : ∀ (a : UInt8) (l : List UInt8), ev (a :: l) x = g8 (ev (dv r (a :: l)) x) (x ^^^ r) ^^^ ev (a :: l) r
  | a, [] => by show a ^^^ g8 0 x = g8 0 (x ^^^ r) ^^^ (a ^^^ g8 0 r); simp only [g8_zero_left, xzero, zerox]
  | a, b :: l => by
    show a ^^^ g8 (ev (b :: l) x) x = g8 (ev (b :: l) r ^^^ g8 (ev (dv r (b :: l)) x) x) (x ^^^ r) ^^^ (a ^^^ g8 (ev (b :: l) r) r)
    rw [ev_dv r x b l]
    generalize ev (b :: l) r = u
    generalize ev (dv r (b :: l)) x = q
    rw [g8_xor_left, g8_xor_left, g8_assoc, g8_assoc, g8_comm (x ^^^ r) x, g8_xor u, xcomm _ (g8 q (g8 x (x ^^^ r))), xassoc (g8 q _), xcomm a (g8 u r), ← xassoc _ (g8 u r), xtwice, ← xassoc, xcomm, ← xassoc, xcomm]
theorem dv_zero (r : UInt8) : ∀ (a : UInt8) (l : List UInt8), (∀ y ∈ dv r (a :: l), y = 0) → ev (a :: l) r = 0 → ∀ y ∈ a :: l, y = 0
  | a, [], _, h, y, hy => by
    have e : a = 0 := by
      have : a ^^^ g8 0 r = 0 := h
      rwa [g8_zero_left, xzero] at this
    simp at hy; rw [hy, e]
  | a, b :: l, hd, h, y, hy => by
    have e0 : ev (b :: l) r = 0 := hd _ (by unfold dv; simp)
    have ih := dv_zero r b l (fun y hy => hd y (by unfold dv; simp [hy])) e0
    have e : a = 0 := by
      have : a ^^^ g8 (ev (b :: l) r) r = 0 := h
      rwa [e0, g8_zero_left, xzero] at this
    rcases List.mem_cons.1 hy with h1 | h1
    · rw [h1, e]
    · exact ih y h1
/-- As many different roots as coefficients: nought. -/
theorem roots : ∀ (m : Nat) (l xs : List UInt8), l.length = m → m ≤ xs.length → xs.Nodup → (∀ x ∈ xs, ev l x = 0) → ∀ a ∈ l, a = 0
  | 0, l, _, h, _, _, _, a, ha => by
    have : l = [] := List.length_eq_zero_iff.1 h
    subst this; cases ha
  | m + 1, [], _, h, _, _, _, _, _ => by simp at h
  | m + 1, a :: l, [], _, h, _, _, _, _ => by simp at h
  | m + 1, a :: l, r :: xs, hl, hx, hn, hr, y, hy => by
    have e0 := hr r (by simp)
    refine dv_zero r a l ?_ e0 y hy
    refine roots m (dv r (a :: l)) xs (by rw [dv_len]; simpa using hl) (by simpa using hx) (List.nodup_cons.1 hn).2 fun x hx' => ?_
    have e1 := hr x (by simp [hx'])
    rw [ev_dv r x a l, e0, xzero] at e1
    refine Classical.byContradiction fun hne => ?_
    refine g8_ne_zero hne (fun h => ?_) e1
    have := x_eq_zero h
    subst this
    exact (List.nodup_cons.1 hn).1 hx'
/-- Powers. -/
def pw (x : UInt8) : Nat → UInt8
  | 0 => 1
  | n + 1 => g8 (pw x n) x
theorem sm_front : ∀ (n : Nat) (f : Nat → UInt8), sm (n + 1) f = f 0 ^^^ sm n (fun i => f (i + 1))
  | 0, f => by show 0 ^^^ f 0 = f 0 ^^^ 0; rw [zerox, xzero]
  | n + 1, f => by
    show sm (n + 1) f ^^^ f (n + 1) = f 0 ^^^ (sm n (fun i => f (i + 1)) ^^^ f (n + 1))
    rw [sm_front n f, xassoc]
theorem ev_sm (x : UInt8) : ∀ (n : Nat) (v : Nat → UInt8), sm n (fun k => g8 (v k) (pw x k)) = ev ((List.range n).map v) x
  | 0, _ => rfl
  | n + 1, v => by
    rw [sm_front, List.range_succ_eq_map, List.map_cons, List.map_map]
    show g8 (v 0) 1 ^^^ _ = v 0 ^^^ g8 (ev ((List.range n).map (v ∘ Nat.succ)) x) x
    rw [g8_one, ← ev_sm x n (v ∘ Nat.succ), sm_mul]
    congr 1
    exact sm_congr n fun k _ => by show g8 (v (k + 1)) (g8 (pw x k) x) = _; rw [g8_assoc]; rfl
/-- Rows of powers of different numbers are free. -/
theorem vand_free (n : Nat) (xs : List UInt8) (hl : xs.length = n) (hn : xs.Nodup) : Free n (fun i j => pw (xs.getD i 0) j) := by
  intro v hv k hk
  have := roots n ((List.range n).map v) xs (by simp) (by omega) hn (fun x hx => by
    obtain ⟨i, hi⟩ := List.getElem?_of_mem hx
    have hi2 : i < n := by have := (List.getElem?_eq_some_iff.1 hi).1; omega
    have e := hv i hi2
    rw [← ev_sm]
    have hx2 : xs.getD i 0 = x := by rw [List.getD_eq_getElem?_getD, hi]; rfl
    rw [← e]
    exact sm_congr n fun k _ => by show g8 (v k) (pw x k) = g8 (v k) (pw (xs.getD i 0) k); rw [hx2]) (v k) (List.mem_map.2 ⟨k, by simp [hk], rfl⟩)
  exact this
end Go.Proofs.YthkbbcdnmdjhdaaGreat.Mat
/-! XMatList: Matrices as lists of rows: product, unit, powers, inverse, as the code makes them; and what they are, entry by entry. No program in sight. -/
namespace Go.Proofs.YthkbbcdnmdjhdaaGreat.Mat
open Go.Proofs.YthkbbcdnmdjhdaaGreat.Gf

abbrev M := List (List UInt8)
def en (A : M) : Fn := fun i j => (A.getD i []).getD j 0
def Sh (A : M) (n m : Nat) : Prop := A.length = n ∧ ∀ r ∈ A, r.length = m
theorem Sh.row {A : M} {n m : Nat} (h : Sh A n m) {i : Nat} (hi : i < n) : (A.getD i []).length = m := by
  have hi2 : i < A.length := by rw [h.1]; exact hi
  rw [List.getD_eq_getElem?_getD, List.getElem?_eq_getElem hi2]
  exact h.2 _ (List.getElem_mem hi2)
theorem getD_lt {α : Type} {l : List α} {i : Nat} (h : i < l.length) (d : α) : l.getD i d = l[i] := by
  rw [List.getD_eq_getElem?_getD, List.getElem?_eq_getElem h]; rfl
theorem mat_ext {A B : M} {n m : Nat} (hA : Sh A n m) (hB : Sh B n m) (h : EqOn n m (en A) (en B)) : A = B := by
  apply List.ext_getElem (by rw [hA.1, hB.1])
  intro i h1 h2
  have hi : i < n := by rw [← hA.1]; exact h1
  have l1 := hA.2 _ (List.getElem_mem h1)
  have l2 := hB.2 _ (List.getElem_mem h2)
  apply List.ext_getElem (by rw [l1, l2])
  intro j h3 h4
  have e := h i hi j (by rw [← l1]; exact h3)
  unfold en at e
  rw [getD_lt h1, getD_lt h2, getD_lt h3, getD_lt h4] at e
  exact e
theorem Sh.of_map {n m : Nat} {f : Nat → List UInt8} (h : ∀ i, i < n → (f i).length = m) : Sh ((List.range n).map f) n m :=
  ⟨by simp, fun r hr => by obtain ⟨i, hi, rfl⟩ := List.mem_map.1 hr; exact h i (by simpa using hi)⟩
theorem range_getD {α : Type} {n : Nat} (f : Nat → α) {i : Nat} (h : i < n) (d : α) : ((List.range n).map f).getD i d = f i := by
  rw [getD_lt (by simpa using h)]; simp
theorem zeros_getD (n j : Nat) : (List.replicate n (0 : UInt8)).getD j 0 = 0 := by
  rw [List.getD_eq_getElem?_getD, List.getElem?_replicate]
  split <;> rfl
theorem mad_getD (d s : List UInt8) (c : UInt8) (j : Nat) (hd : j < d.length) (hs : j < s.length) : (mad d s c).getD j 0 = d.getD j 0 ^^^ g8 (s.getD j 0) c := by
  rw [List.getD_eq_getElem?_getD, mad_get, List.getElem?_eq_getElem hd, List.getElem?_eq_getElem hs, getD_lt hd, getD_lt hs]; rfl

/-- Row r times the first k rows of b. -/
def rowk (r : List UInt8) (b : M) (m : Nat) : Nat → List UInt8
  | 0 => List.replicate m 0
  | k + 1 => mad (rowk r b m k) (b.getD k []) (r.getD k 0)
theorem rowk_len (r : List UInt8) (b : M) (m : Nat) : ∀ k, (rowk r b m k).length = m
  | 0 => by simp [rowk]
  | k + 1 => by unfold rowk; rw [mad_length, rowk_len r b m k]
theorem rowk_getD (r : List UInt8) {b : M} {m n : Nat} (hb : Sh b n m) {j : Nat} (hj : j < m) : ∀ k, k ≤ n → (rowk r b m k).getD j 0 = sm k (fun k => g8 (en b k j) (r.getD k 0))
  | 0, _ => zeros_getD _ _
  | k + 1, h => by
    unfold rowk
    rw [mad_getD _ _ _ _ (by rw [rowk_len]; exact hj) (by rw [hb.row (by omega)]; exact hj), rowk_getD r hb hj k (by omega)]
    rfl
/-- The product of a and b; m is how many columns b has. -/
def mmul (a b : M) (m : Nat) : M := a.map fun r => rowk r b m b.length
theorem mmul_sh {a b : M} {n k m : Nat} (ha : Sh a n k) : Sh (mmul a b m) n m :=
  ⟨by unfold mmul; rw [List.length_map, ha.1], fun r hr => by obtain ⟨x, _, rfl⟩ := List.mem_map.1 hr; exact rowk_len _ _ _ _⟩
theorem mmul_row {a b : M} {n k m : Nat} (ha : Sh a n k) {i : Nat} (hi : i < n) : (mmul a b m).getD i [] = rowk (a.getD i []) b m b.length := by
  have hi2 : i < a.length := by rw [ha.1]; exact hi
  unfold mmul
  rw [getD_lt (by simpa using hi2), getD_lt hi2]; simp
theorem mmul_en {a b : M} {n k m : Nat} (ha : Sh a n k) (hb : Sh b k m) : EqOn n m (en (mmul a b m)) (mul k (en a) (en b)) := by
  intro i hi j hj
  unfold en
  rw [mmul_row ha hi, rowk_getD _ hb hj b.length (by rw [hb.1]; exact Nat.le_refl _), hb.1]
  rfl

def unit (n : Nat) : M := (List.range n).map fun i => (List.replicate n 0).set i 1
theorem unit_sh (n : Nat) : Sh (unit n) n n := Sh.of_map fun i _ => by simp
theorem unit_en (n : Nat) : EqOn n n (en (unit n)) one := by
  intro i hi j hj
  unfold en unit
  rw [range_getD _ hi, List.getD_eq_getElem?_getD, List.getElem?_set]
  unfold one
  by_cases e : i = j
  · rw [if_pos e, if_pos e, if_pos (by simpa using hi)]; rfl
  · rw [if_neg e, if_neg e, ← List.getD_eq_getElem?_getD, zeros_getD]
def vand (n k : Nat) : M := (List.range n).map fun r => (List.range k).map fun c => pw (UInt8.ofNat r) c
theorem vand_sh (n k : Nat) : Sh (vand n k) n k := Sh.of_map fun i _ => by simp
theorem vand_en (n k : Nat) : EqOn n k (en (vand n k)) (fun i j => pw (UInt8.ofNat i) j) := by
  intro i hi j hj
  unfold en vand
  rw [range_getD _ hi, range_getD _ hj]

/-- The first row from p on that has something in column c. -/
def pvf (x : M) (c : Nat) : Nat → Nat → Option Nat
  | 0, _ => none
  | f + 1, p => if en x p c = 0 then pvf x c f (p + 1) else some p
def pv (x : M) (n c : Nat) : Option Nat := pvf x c (n - c) c
theorem pvf_some {x : M} {c : Nat} : ∀ {f p q : Nat}, pvf x c f p = some q → p ≤ q ∧ q < p + f ∧ en x q c ≠ 0
  | 0, _, _, h => by cases h
  | f + 1, p, q, h => by
    unfold pvf at h
    split at h
    · obtain ⟨h1, h2, h3⟩ := pvf_some h
      exact ⟨by omega, by omega, h3⟩
    · rename_i hn
      simp only [Option.some.injEq] at h
      subst h
      exact ⟨Nat.le_refl _, by omega, hn⟩
theorem pvf_none {x : M} {c : Nat} : ∀ {f p : Nat}, pvf x c f p = none → ∀ q, p ≤ q → q < p + f → en x q c = 0
  | 0, _, _, q, h1, h2 => by omega
  | f + 1, p, h, q, h1, h2 => by
    unfold pvf at h
    split at h
    · rename_i hz
      by_cases e : q = p
      · rw [e]; exact hz
      · exact pvf_none h q (by omega) (by omega)
    · cases h
def swap (x : M) (c p : Nat) : M := (x.set c (x.getD p [])).set p (x.getD c [])
def scale (x : M) (n c : Nat) (f : UInt8) : M := x.set c (mad (List.replicate n 0) (x.getD c []) f)
/-- The rows ahead of r: g i times row c is added, but to row c. -/
def clear (y : M) (c : Nat) (g : Nat → UInt8) (r : Nat) : M := (List.range y.length).map fun i => if i < r ∧ i ≠ c then mad (y.getD i []) (y.getD c []) (g i) else y.getD i []

theorem set_getD (x : M) (i j : Nat) (r : List UInt8) (hi : i < x.length) : (x.set i r).getD j [] = if j = i then r else x.getD j [] := by
  rw [List.getD_eq_getElem?_getD, List.getElem?_set, List.getD_eq_getElem?_getD]
  by_cases e : i = j
  · rw [if_pos e, if_pos hi, if_pos e.symm]; rfl
  · rw [if_neg e, if_neg (fun h => e h.symm)]
theorem Sh.set {x : M} {n m : Nat} (h : Sh x n m) {i : Nat} {r : List UInt8} (hr : r.length = m) : Sh (x.set i r) n m :=
  ⟨by rw [List.length_set, h.1], fun y hy => (List.mem_or_eq_of_mem_set hy).elim (fun h1 => h.2 _ h1) (fun h1 => h1 ▸ hr)⟩
theorem swap_sh {x : M} {n m c p : Nat} (h : Sh x n m) (hc : c < n) (hp : p < n) : Sh (swap x c p) n m := (h.set (h.row hp)).set (h.row hc)
theorem swap_row {x : M} {n m c p : Nat} (h : Sh x n m) (hc : c < n) (hp : p < n) (i : Nat) : (swap x c p).getD i [] = if i = c then x.getD p [] else if i = p then x.getD c [] else x.getD i [] := by
  unfold swap
  rw [set_getD _ _ _ _ (by rw [List.length_set, h.1]; exact hp), set_getD _ _ _ _ (by rw [h.1]; exact hc)]
  by_cases e : i = p
  · rw [if_pos e]
    by_cases e2 : i = c
    · rw [if_pos e2, ← e, ← e2]
    · rw [if_neg e2, if_pos e]
  · rw [if_neg e]
    by_cases e2 : i = c
    · rw [if_pos e2, if_pos e2]
    · rw [if_neg e2, if_neg e2, if_neg e]
theorem swap_en {x : M} {n m c p : Nat} (h : Sh x n m) (hc : c < n) (hp : p < n) : EqOn n m (en (swap x c p)) (swp c p (en x)) := by
  intro i _ j _
  unfold en swp
  rw [swap_row h hc hp]
  by_cases e : i = c
  · rw [if_pos e, if_pos e]
  · rw [if_neg e, if_neg e]
    by_cases e2 : i = p
    · rw [if_pos e2, if_pos e2]
    · rw [if_neg e2, if_neg e2]
theorem scale_sh {x : M} {n m c : Nat} {f : UInt8} (h : Sh x n m) : Sh (scale x m c f) n m := h.set (by rw [mad_length]; simp)
theorem scale_en {x : M} {n m c : Nat} {f : UInt8} (h : Sh x n m) (hc : c < n) : EqOn n m (en (scale x m c f)) (scl c f (en x)) := by
  intro i _ j hj
  unfold en scl scale
  rw [set_getD _ _ _ _ (by rw [h.1]; exact hc)]
  by_cases e : i = c
  · rw [if_pos e, if_pos e, mad_getD _ _ _ _ (by simpa using hj) (by rw [h.row hc]; exact hj), zeros_getD, zerox]
  · rw [if_neg e, if_neg e]
theorem clear_row {y : M} {n m c r : Nat} {g : Nat → UInt8} (h : Sh y n m) {i : Nat} (hi : i < n) : (clear y c g r).getD i [] = if i < r ∧ i ≠ c then mad (y.getD i []) (y.getD c []) (g i) else y.getD i [] := by
  unfold clear
  rw [range_getD _ (by rw [h.1]; exact hi)]
theorem clear_sh {y : M} {n m c r : Nat} {g : Nat → UInt8} (h : Sh y n m) : Sh (clear y c g r) n m := by
  have := Sh.of_map (n := y.length) (m := m) (f := fun i => if i < r ∧ i ≠ c then mad (y.getD i []) (y.getD c []) (g i) else y.getD i []) (fun i hi => by
    have := h.row (i := i) (by rw [← h.1]; exact hi)
    split
    · rw [mad_length, this]
    · exact this)
  rw [h.1] at this
  unfold clear
  rw [h.1]; exact this
theorem clear_en {y : M} {n m c : Nat} {g : Nat → UInt8} (h : Sh y n m) (hc : c < n) : EqOn n m (en (clear y c g n)) (clr c g (en y)) := by
  intro i hi j hj
  unfold en clr
  rw [clear_row h hi]
  by_cases e : i = c
  · rw [if_neg (fun h => h.2 e), if_pos e]
  · rw [if_pos ⟨hi, e⟩, if_neg e, mad_getD _ _ _ _ (by rw [h.row hi]; exact hj) (by rw [h.row hc]; exact hj)]
theorem clear_zero {y : M} {c : Nat} {g : Nat → UInt8} : clear y c g 0 = y := by
  apply List.ext_getElem (by unfold clear; simp)
  intro i h1 h2
  unfold clear
  simp [h2]
/-- One row more. -/
theorem clear_succ {y : M} {n m c r : Nat} {g : Nat → UInt8} (h : Sh y n m) (hc : c < n) (hr : r < n) :
    clear y c g (r + 1) = if r = c then clear y c g r else (clear y c g r).set r (mad ((clear y c g r).getD r []) ((clear y c g r).getD c []) (g r)) := by
  have hl : (clear y c g r).length = n := (clear_sh h).1
  have hl' : (clear y c g (r + 1)).length = n := (clear_sh h).1
  have key : ∀ i, i < n → (clear y c g (r + 1)).getD i [] = if i = r ∧ r ≠ c then mad (y.getD i []) (y.getD c []) (g i) else (clear y c g r).getD i [] := by
    intro i hi
    rw [clear_row h hi, clear_row h hi]
    by_cases e : i = r
    · subst e
      by_cases e2 : i = c
      · rw [if_neg (fun h => h.2 e2), if_neg (fun h => h.2 e2), if_neg (fun h => h.2 e2)]
      · rw [if_pos ⟨by omega, e2⟩, if_pos ⟨rfl, e2⟩]
    · rw [if_neg (fun h : i = r ∧ _ => e h.1)]
      by_cases e3 : i < r ∧ i ≠ c
      · rw [if_pos e3, if_pos ⟨by omega, e3.2⟩]
      · rw [if_neg e3, if_neg (fun h => e3 ⟨by omega, h.2⟩)]
  by_cases e : r = c
  · rw [if_pos e]
    apply List.ext_getElem (by rw [hl, hl'])
    intro i h1 h2
    have := key i (by omega)
    rw [if_neg (fun h => h.2 e), getD_lt h1, getD_lt h2] at this
    exact this
  · rw [if_neg e]
    apply List.ext_getElem (by rw [List.length_set, hl, hl'])
    intro i h1 h2
    have hi : i < n := by omega
    have := key i hi
    rw [getD_lt h1] at this
    rw [this, ← getD_lt h2 [], set_getD _ _ _ _ (by rw [hl]; exact hr)]
    by_cases e2 : i = r
    · subst e2
      rw [if_pos ⟨rfl, e⟩, if_pos rfl, clear_row h hi, if_neg (fun h => by omega), clear_row h hc, if_neg (fun h => h.2 rfl)]
    · rw [if_neg (fun h => e2 h.1), if_neg e2]

/-- A column's step, on both halves. -/
def stepX (x : M) (n c p : Nat) : M :=
  let x1 := swap x c p
  let x2 := scale x1 n c (gi (en x1 c c))
  clear x2 c (fun i => en x2 i c) n
def stepY (x y : M) (n c p : Nat) : M :=
  let x1 := swap x c p
  let x2 := scale x1 n c (gi (en x1 c c))
  clear (scale (swap y c p) n c (gi (en x1 c c))) c (fun i => en x2 i c) n
def gj (n : Nat) : Nat → Nat → M → M → Option M
  | 0, _, _, y => some y
  | f + 1, c, x, y => match pv x n c with
    | none => none
    | some p => gj n f (c + 1) (stepX x n c p) (stepY x y n c p)
/-- The inverse. -/
def minv (n : Nat) (a : M) : Option M := gj n n 0 a (unit n)
theorem step_sh {x y : M} {n c p : Nat} (hx : Sh x n n) (hy : Sh y n n) (hc : c < n) (hp : p < n) : Sh (stepX x n c p) n n ∧ Sh (stepY x y n c p) n n :=
  ⟨clear_sh (scale_sh (swap_sh hx hc hp)), clear_sh (scale_sh (swap_sh hy hc hp))⟩
theorem scl_f {c : Nat} {f g : UInt8} {A : Fn} (h : f = g) : scl c f A = scl c g A := by rw [h]
theorem clr_g {n m c : Nat} {f g : Nat → UInt8} {A : Fn} (h : ∀ i, i < n → f i = g i) : EqOn n m (clr c f A) (clr c g A) := by
  intro i hi j _
  unfold clr
  rw [h i hi]
theorem step_en {x : M} {n c p : Nat} (hx : Sh x n n) (hc : c < n) (hp : p < n) :
    EqOn n n (en (scale (swap x c p) n c (gi (en (swap x c p) c c)))) (scl c (gi (swp c p (en x) c c)) (swp c p (en x))) := by
  have e1 := swap_en hx hc hp
  refine (scale_en (swap_sh hx hc hp) hc).trans ?_
  rw [e1 c hc c hc]
  exact scl_on hc e1
theorem step_kept {A : Fn} {x y : M} {n c p : Nat} (hx : Sh x n n) (hy : Sh y n n) (hc : c < n) (hp : p < n) (hcp : c ≤ p) (hn : en x p c ≠ 0) (hk : Kept n A (en x) (en y)) (hd : Done n c (en x)) :
    Kept n A (en (stepX x n c p)) (en (stepY x y n c p)) ∧ Done n (c + 1) (en (stepX x n c p)) := by
  have x1 := step_en hx hc hp
  have s2 := scale_sh (c := c) (f := gi (en (swap x c p) c c)) (swap_sh hx hc hp)
  have t2 := scale_sh (c := c) (f := gi (en (swap x c p) c c)) (swap_sh hy hc hp)
  have y1 : EqOn n n (en (scale (swap y c p) n c (gi (en (swap x c p) c c)))) (scl c (gi (swp c p (en x) c c)) (swp c p (en y))) := by
    refine (scale_en (swap_sh hy hc hp) hc).trans ?_
    rw [swap_en hx hc hp c hc c hc]
    exact scl_on hc (swap_en hy hc hp)
  have xc : swp c p (en x) c c = en x p c := by unfold swp; rw [if_pos rfl]
  have hX : EqOn n n (en (stepX x n c p)) (clr c (fun i => scl c (gi (swp c p (en x) c c)) (swp c p (en x)) i c) (scl c (gi (swp c p (en x) c c)) (swp c p (en x)))) :=
    (clear_en s2 hc).trans ((clr_on hc x1).trans (clr_g fun i hi => x1 i hi c hc))
  have hY : EqOn n n (en (stepY x y n c p)) (clr c (fun i => scl c (gi (swp c p (en x) c c)) (swp c p (en x)) i c) (scl c (gi (swp c p (en x) c c)) (swp c p (en y)))) :=
    (clear_en t2 hc).trans ((clr_on hc y1).trans (clr_g fun i hi => x1 i hi c hc))
  refine ⟨(((hk.swp hc hp).scl (f' := en x p c) hc (by rw [xc, g8_comm, g8_gi hn])).clr hc _).on hX hY, ?_⟩
  intro i hi j hj
  have h := Done.step hd hc hp hcp hn i hi j hj
  rw [hX i hi j (by omega)]
  exact h
theorem gj_spec {A : Fn} {n : Nat} : ∀ (f c : Nat) (x y : M), c + f = n → Sh x n n → Sh y n n → Kept n A (en x) (en y) → Done n c (en x) →
    (∀ z, gj n f c x y = some z → Sh z n n ∧ EqOn n n (mul n (en z) A) one ∧ EqOn n n (mul n A (en z)) one) ∧ (gj n f c x y = none → ¬ Free n A)
  | 0, c, x, y, e, _, hy, hk, hd => by
    have e : c = n := by omega
    subst e
    refine ⟨fun z hz => ?_, fun h => by cases h⟩
    have hz : y = z := by simpa [gj] using hz
    subst hz
    exact ⟨hy, hk.fin hd⟩
  | f + 1, c, x, y, e, hx, hy, hk, hd => by
    have hc : c < n := by omega
    unfold gj
    cases hp : pv x n c with
    | none =>
      refine ⟨fun z hz => (by cases hz), fun _ => ?_⟩
      exact stuck hk hd hc fun p h1 h2 => pvf_none hp p h1 (by omega)
    | some p =>
      obtain ⟨h1, h2, h3⟩ := pvf_some hp
      have hpn : p < n := by omega
      obtain ⟨k1, k2⟩ := step_kept hx hy hc hpn h1 h3 hk hd
      obtain ⟨s1, s2⟩ := step_sh hx hy hc hpn
      exact gj_spec f (c + 1) _ _ (by omega) s1 s2 k1 k2
theorem minv_spec {n : Nat} {a z : M} (ha : Sh a n n) (h : minv n a = some z) : Sh z n n ∧ EqOn n n (mul n (en z) (en a)) one ∧ EqOn n n (mul n (en a) (en z)) one :=
  (gj_spec n 0 a (unit n) (by omega) ha (unit_sh n) ((Kept.start n (en a)).on (EqOn.refl _ _ _) (unit_en n)) (fun _ _ j hj => by omega)).1 z h
theorem minv_free {n : Nat} {a : M} (ha : Sh a n n) (h : Free n (en a)) : ∃ z, minv n a = some z := by
  cases e : minv n a with
  | some z => exact ⟨z, rfl⟩
  | none => exact absurd h ((gj_spec n 0 a (unit n) (by omega) ha (unit_sh n) ((Kept.start n (en a)).on (EqOn.refl _ _ _) (unit_en n)) (fun _ _ j hj => by omega)).2 e)
theorem gj_sh {n : Nat} : ∀ (f c : Nat) (x y : M), c + f ≤ n → Sh x n n → Sh y n n → ∀ z, gj n f c x y = some z → Sh z n n
  | 0, _, _, y, _, _, hy, z, hz => by
    have hz : y = z := by simpa [gj] using hz
    rw [← hz]; exact hy
  | f + 1, c, x, y, e, hx, hy, z, hz => by
    unfold gj at hz
    cases hp : pv x n c with
    | none => rw [hp] at hz; cases hz
    | some p =>
      rw [hp] at hz
      obtain ⟨h1, h2, h3⟩ := pvf_some hp
      obtain ⟨s1, s2⟩ := step_sh hx hy (c := c) (p := p) (by omega) (by omega)
      exact gj_sh f (c + 1) _ _ (by omega) s1 s2 z hz
end Go.Proofs.YthkbbcdnmdjhdaaGreat.Mat
/-! XMatLaws: What products, inverses, powers and the systematic matrix answer, in plain Lean. No program in sight. -/
namespace Go.Proofs.YthkbbcdnmdjhdaaGreat.Mat
open Go.Proofs.YthkbbcdnmdjhdaaGreat.Gf

theorem mmul_assoc {a b c : M} {n k m l : Nat} (ha : Sh a n k) (hb : Sh b k m) (hc : Sh c m l) : mmul (mmul a b m) c l = mmul a (mmul b c l) l := by
  have s1 : Sh (mmul a b m) n m := mmul_sh ha
  have s2 : Sh (mmul b c l) k l := mmul_sh hb
  refine mat_ext (mmul_sh s1) (mmul_sh ha) ?_
  exact (mmul_en s1 hc).trans ((EqOn.mul (mmul_en ha hb) (EqOn.refl _ _ _)).trans ((EqOn.assoc n k m l _ _ _).trans ((EqOn.mul (EqOn.refl _ _ _) (mmul_en hb hc)).symm.trans (mmul_en ha s2).symm)))
theorem unit_mmul {a : M} {n m : Nat} (ha : Sh a n m) : mmul (unit n) a m = a :=
  mat_ext (mmul_sh (unit_sh n)) ha ((mmul_en (unit_sh n) ha).trans ((EqOn.mul (unit_en n) (EqOn.refl _ _ _)).trans (EqOn.one_mul n m _)))
theorem mmul_unit {a : M} {n m : Nat} (ha : Sh a n m) : mmul a (unit m) m = a :=
  mat_ext (mmul_sh ha) ha ((mmul_en ha (unit_sh m)).trans ((EqOn.mul (EqOn.refl _ _ _) (unit_en m)).trans (EqOn.mul_one n m _)))
theorem minv_left {n : Nat} {a z : M} (ha : Sh a n n) (h : minv n a = some z) : mmul z a n = unit n :=
  mat_ext (mmul_sh (minv_spec ha h).1) (unit_sh n) ((mmul_en (minv_spec ha h).1 ha).trans ((minv_spec ha h).2.1.trans (unit_en n).symm))
theorem minv_right {n : Nat} {a z : M} (ha : Sh a n n) (h : minv n a = some z) : mmul a z n = unit n :=
  mat_ext (mmul_sh ha) (unit_sh n) ((mmul_en ha (minv_spec ha h).1).trans ((minv_spec ha h).2.2.trans (unit_en n).symm))
theorem minv_back {n : Nat} {a z : M} (ha : Sh a n n) (h : minv n a = some z) : minv n z = some a := by
  obtain ⟨s1, h1, h2⟩ := minv_spec ha h
  obtain ⟨y, hy⟩ := minv_free s1 (Free.of_left h2)
  obtain ⟨s2, h3, h4⟩ := minv_spec s1 hy
  rw [hy, mat_ext s2 ha (inv_unique h3 h1)]

/-- Picked rows. -/
def pick (a : M) (l : List Nat) : M := l.map fun i => a.getD i []
theorem pick_sh {a : M} {n m : Nat} (ha : Sh a n m) {l : List Nat} (hl : ∀ i ∈ l, i < n) : Sh (pick a l) l.length m :=
  ⟨by simp [pick], fun r hr => by obtain ⟨i, hi, rfl⟩ := List.mem_map.1 hr; exact ha.row (hl i hi)⟩
theorem pick_row (a : M) (l : List Nat) {i : Nat} (hi : i < l.length) : (pick a l).getD i [] = a.getD l[i] [] := by
  unfold pick
  rw [getD_lt (by simpa using hi)]; simp
theorem pick_mmul {a b : M} {n k m : Nat} (ha : Sh a n k) {l : List Nat} (hl : ∀ i ∈ l, i < n) : mmul (pick a l) b m = pick (mmul a b m) l := by
  unfold pick
  show ((l.map fun i => a.getD i []).map fun r => rowk r b m b.length) = _
  rw [List.map_map]
  refine List.map_congr_left fun i hi => ?_
  rw [mmul_row ha (hl i hi)]
  rfl
theorem pick_all {a : M} {n m : Nat} (ha : Sh a n m) : pick a (List.range n) = a := by
  apply List.ext_getElem (by simp [pick, ha.1])
  intro i h1 h2
  have hi : i < n := by rw [← ha.1]; exact h2
  rw [← getD_lt h1 [], ← getD_lt h2 [], pick_row _ _ (by simpa using hi)]
  simp

theorem vand_take (n m k : Nat) : (vand (n + m) k).take n = vand n k := by
  unfold vand
  rw [← List.map_take, List.take_range, Nat.min_eq_left (by omega)]
theorem ofNat_inj {i j : Nat} (hi : i < 256) (hj : j < 256) (h : UInt8.ofNat i = UInt8.ofNat j) : i = j := by
  have := congrArg UInt8.toNat h
  rw [UInt8.toNat_ofNat', UInt8.toNat_ofNat', Nat.mod_eq_of_lt hi, Nat.mod_eq_of_lt hj] at this
  exact this
/-- Different rows of powers, as many as columns, are free. -/
theorem vand_pick_free (n k : Nat) (hn : n ≤ 256) (l : List Nat) (hl : ∀ i ∈ l, i < n) (hk : l.length = k) (hd : l.Nodup) : Free k (en (pick (vand n k) l)) := by
  have h1 := vand_free k (l.map UInt8.ofNat) (by simpa using hk) (by
    unfold List.Nodup at hd ⊢
    rw [List.pairwise_map]
    exact hd.imp_of_mem fun hx hy hne e => hne (ofNat_inj (by have := hl _ hx; omega) (by have := hl _ hy; omega) e))
  refine h1.on fun i hi j hj => ?_
  have hil : i < l.length := by omega
  unfold en
  rw [pick_row _ _ hil]
  have h2 := vand_en n k l[i] (hl _ (List.getElem_mem hil)) j hj
  unfold en at h2
  rw [h2]
  show pw ((l.map UInt8.ofNat).getD i 0) j = pw (UInt8.ofNat l[i]) j
  rw [getD_lt (by simpa using hil)]
  simp
theorem vand_inv (k : Nat) (hk : k ≤ 256) : ∃ z, minv k (vand k k) = some z := by
  refine minv_free (vand_sh k k) ?_
  have := vand_pick_free k k hk (List.range k) (fun i hi => by simpa using hi) (by simp) List.nodup_range
  rwa [pick_all (vand_sh k k)] at this

/-- The systematic matrix of n data rows and m more. -/
def sys (n m : Nat) : Option M := match minv n (vand n n) with
  | some top => some (mmul (vand (n + m) n) top n)
  | none => none
theorem sys_some (n m : Nat) (h : n + m ≤ 256) : ∃ top, minv n (vand n n) = some top ∧ sys n m = some (mmul (vand (n + m) n) top n) := by
  obtain ⟨top, ht⟩ := vand_inv n (by omega)
  exact ⟨top, ht, by unfold sys; rw [ht]⟩
theorem sys_sh {n m : Nat} {x : M} (h : sys n m = some x) : Sh x (n + m) n := by
  unfold sys at h
  cases ht : minv n (vand n n) with
  | none => rw [ht] at h; cases h
  | some top =>
    rw [ht] at h
    simp only [Option.some.injEq] at h
    rw [← h]; exact mmul_sh (vand_sh (n + m) n)
theorem mmul_take (a b : M) (m n : Nat) : (mmul a b m).take n = mmul (a.take n) b m := by
  unfold mmul
  rw [← List.map_take]
theorem sys_top {n m : Nat} {x : M} (h : sys n m = some x) : x.take n = unit n := by
  unfold sys at h
  cases ht : minv n (vand n n) with
  | none => rw [ht] at h; cases h
  | some top =>
    rw [ht] at h
    simp only [Option.some.injEq] at h
    rw [← h, mmul_take, vand_take, minv_right (vand_sh n n) ht]
theorem sys_pick {n m : Nat} {x : M} (hnm : n + m ≤ 256) (h : sys n m = some x) (l : List Nat) (hl : ∀ i ∈ l, i < n + m) (hk : l.length = n) (hd : l.Nodup) : ∃ z, minv n (pick x l) = some z := by
  unfold sys at h
  cases ht : minv n (vand n n) with
  | none => rw [ht] at h; cases h
  | some top =>
    rw [ht] at h
    simp only [Option.some.injEq] at h
    have hv := vand_sh (n + m) n
    obtain ⟨st, _, t2⟩ := minv_spec (vand_sh n n) ht
    have hp : Sh (pick (vand (n + m) n) l) n n := by have := pick_sh hv hl; rwa [hk] at this
    rw [← h, ← pick_mmul hv hl]
    refine minv_free (mmul_sh hp) ?_
    refine Free.on ?_ (mmul_en hp st).symm
    exact Free.mul (vand_pick_free (n + m) n hnm l hl hk hd) (Free.of_left t2)
end Go.Proofs.YthkbbcdnmdjhdaaGreat.Mat
/-! XMatMore: Plain facts that the walks of matrices need. No statement about the program. -/
namespace Go.Proofs.YthkbbcdnmdjhdaaGreat.Mat
open Go.Proofs.YthkbbcdnmdjhdaaGreat.Gf Go.Proofs.YthkbbcdnmdjhdaaGreat

theorem pw_ex (x : UInt8) (x0 : x.toNat ≠ 0) : ∀ n : Nat, (pw x n).toNat = ex (lg x.toNat * n)
  | 0 => rfl
  | n + 1 => by
    show (g8 (pw x n) x).toNat = _
    rw [g8_toNat, pw_ex x x0 n, pow_step _ _ (u8lt x) x0]
theorem pw_gpow (x : UInt8) (n : Nat) (h : n < 255) : gpow x.toNat n = (pw x n).toNat := by
  by_cases x0 : x.toNat = 0
  · have : x = 0 := u8_ext x0
    subst this
    cases n with
    | zero => rfl
    | succ n =>
      show _ = (g8 (pw 0 n) 0).toNat
      rw [g8_zero]
      unfold gpow
      rw [if_neg (by omega), if_neg (by omega), if_pos x0]
      rfl
  · rw [gpow_pos _ _ (by omega) x0, pw_ex x x0]
    congr 2
    omega
theorem mad_none : ∀ d s : List UInt8, mad d s 0 = d
  | [], _ => rfl
  | x :: d, [] => rfl
  | x :: d, y :: s => by
    show (x ^^^ g8 y 0) :: mad d s 0 = _
    rw [g8_zero, xzero, mad_none d s]
theorem set_self (l : M) (i : Nat) : l.set i (l.getD i []) = l := by
  apply List.ext_getElem (by simp)
  intro j h1 h2
  rw [List.getElem_set]
  split
  · rename_i e
    subst e
    exact getD_lt h2 _
  · rfl
theorem clear_at {y : M} {n m c r : Nat} {g : Nat → UInt8} (h : Sh y n m) (hr : r < n) : (clear y c g r).getD r [] = y.getD r [] := by
  rw [clear_row h hr, if_neg (by omega)]
theorem clear_piv {y : M} {n m c r : Nat} {g : Nat → UInt8} (h : Sh y n m) (hc : c < n) : (clear y c g r).getD c [] = y.getD c [] := by
  rw [clear_row h hc, if_neg (by omega)]
theorem clear_same {y : M} {n m c r : Nat} {g : Nat → UInt8} (h : Sh y n m) (hc : c < n) (hr : r < n) (hg : r = c ∨ g r = 0) : clear y c g (r + 1) = clear y c g r := by
  rw [clear_succ h hc hr]
  by_cases e : r = c
  · rw [if_pos e]
  · rw [if_neg e]
    rcases hg with hg | hg
    · exact absurd hg e
    · rw [hg, mad_none, set_self]
theorem clear_step {y : M} {n m c r : Nat} {g : Nat → UInt8} (h : Sh y n m) (hc : c < n) (hr : r < n) (e : r ≠ c) :
    clear y c g (r + 1) = (clear y c g r).set r (mad (y.getD r []) (y.getD c []) (g r)) := by
  rw [clear_succ h hc hr, if_neg e, clear_at h hr, clear_piv h hc]

/-- A matrix: its sides may be. -/
def Good (a : M) : Prop := ∃ n m, 1 ≤ n ∧ n ≤ 255 ∧ 1 ≤ m ∧ m ≤ 255 ∧ Sh a n m
theorem Good.sides {a : M} (h : Good a) : 1 ≤ a.length ∧ a.length ≤ 255 ∧ 1 ≤ (a.getD 0 []).length ∧ (a.getD 0 []).length ≤ 255 ∧ Sh a a.length (a.getD 0 []).length := by
  obtain ⟨n, m, h1, h2, h3, h4, h5⟩ := h
  have := h5.row (i := 0) (by omega)
  rw [this, h5.1]
  exact ⟨h1, h2, h3, h4, h5⟩
theorem good_iff (a : M) : Good a ↔ (1 ≤ a.length ∧ a.length ≤ 255 ∧ 1 ≤ (a.getD 0 []).length ∧ (a.getD 0 []).length ≤ 255 ∧ ∀ r ∈ a, r.length = (a.getD 0 []).length) :=
  ⟨fun h => by obtain ⟨h1, h2, h3, h4, h5⟩ := h.sides; exact ⟨h1, h2, h3, h4, h5.2⟩, fun ⟨h1, h2, h3, h4, h5⟩ => ⟨_, _, h1, h2, h3, h4, rfl, h5⟩⟩
end Go.Proofs.YthkbbcdnmdjhdaaGreat.Mat
