/-
  The field of 256 elements in plain Lean: doubling, the bitwise product, the tables of powers and logarithms, and the laws of a field. No program in sight.
-/
namespace Go.Proofs.Ytdmdcgcmappliaa.Gf

def dbl (x : Nat) : Nat := if x < 128 then 2 * x else (2 * x) ^^^ 285
def E : List Nat := [1, 2, 4, 8, 16, 32, 64, 128, 29, 58, 116, 232, 205, 135, 19, 38, 76, 152, 45, 90, 180, 117, 234, 201, 143, 3, 6, 12, 24, 48, 96, 192, 157, 39, 78, 156, 37, 74, 148, 53, 106, 212, 181, 119, 238, 193, 159, 35, 70, 140, 5, 10, 20, 40, 80, 160, 93, 186, 105, 210, 185, 111, 222, 161, 95, 190, 97, 194, 153, 47, 94, 188, 101, 202, 137, 15, 30, 60, 120, 240, 253, 231, 211, 187, 107, 214, 177, 127, 254, 225, 223, 163, 91, 182, 113, 226, 217, 175, 67, 134, 17, 34, 68, 136, 13, 26, 52, 104, 208, 189, 103, 206, 129, 31, 62, 124, 248, 237, 199, 147, 59, 118, 236, 197, 151, 51, 102, 204, 133, 23, 46, 92, 184, 109, 218, 169, 79, 158, 33, 66, 132, 21, 42, 84, 168, 77, 154, 41, 82, 164, 85, 170, 73, 146, 57, 114, 228, 213, 183, 115, 230, 209, 191, 99, 198, 145, 63, 126, 252, 229, 215, 179, 123, 246, 241, 255, 227, 219, 171, 75, 150, 49, 98, 196, 149, 55, 110, 220, 165, 87, 174, 65, 130, 25, 50, 100, 200, 141, 7, 14, 28, 56, 112, 224, 221, 167, 83, 166, 81, 162, 89, 178, 121, 242, 249, 239, 195, 155, 43, 86, 172, 69, 138, 9, 18, 36, 72, 144, 61, 122, 244, 245, 247, 243, 251, 235, 203, 139, 11, 22, 44, 88, 176, 125, 250, 233, 207, 131, 27, 54, 108, 216, 173, 71, 142]
def L : List Nat := [0, 0, 1, 25, 2, 50, 26, 198, 3, 223, 51, 238, 27, 104, 199, 75, 4, 100, 224, 14, 52, 141, 239, 129, 28, 193, 105, 248, 200, 8, 76, 113, 5, 138, 101, 47, 225, 36, 15, 33, 53, 147, 142, 218, 240, 18, 130, 69, 29, 181, 194, 125, 106, 39, 249, 185, 201, 154, 9, 120, 77, 228, 114, 166, 6, 191, 139, 98, 102, 221, 48, 253, 226, 152, 37, 179, 16, 145, 34, 136, 54, 208, 148, 206, 143, 150, 219, 189, 241, 210, 19, 92, 131, 56, 70, 64, 30, 66, 182, 163, 195, 72, 126, 110, 107, 58, 40, 84, 250, 133, 186, 61, 202, 94, 155, 159, 10, 21, 121, 43, 78, 212, 229, 172, 115, 243, 167, 87, 7, 112, 192, 247, 140, 128, 99, 13, 103, 74, 222, 237, 49, 197, 254, 24, 227, 165, 153, 119, 38, 184, 180, 124, 17, 68, 146, 217, 35, 32, 137, 46, 55, 63, 209, 91, 149, 188, 207, 205, 144, 135, 151, 178, 220, 252, 190, 97, 242, 86, 211, 171, 20, 42, 93, 158, 132, 60, 57, 83, 71, 109, 65, 162, 31, 45, 67, 216, 183, 123, 164, 118, 196, 23, 73, 236, 127, 12, 111, 246, 108, 161, 59, 82, 41, 157, 85, 170, 251, 96, 134, 177, 187, 204, 62, 90, 203, 89, 95, 176, 156, 169, 160, 81, 11, 245, 22, 235, 122, 117, 44, 215, 79, 174, 213, 233, 230, 231, 173, 232, 116, 214, 244, 234, 168, 80, 88, 175]
def ex (n : Nat) : Nat := E.getD (n % 255) 0
def lg (a : Nat) : Nat := L.getD a 0

theorem dbl_lt (x : Nat) (h : x < 256) : dbl x < 256 := by
  revert x; decide +kernel
theorem E_dbl : ∀ i, i < 254 → E.getD (i + 1) 0 = dbl (E.getD i 0) := by decide +kernel
theorem E_wrap : dbl (E.getD 254 0) = E.getD 0 0 := by decide +kernel
theorem E_lt : ∀ i, i < 255 → E.getD i 0 < 256 ∧ 0 < E.getD i 0 := by decide +kernel
theorem E_L : ∀ a, a < 256 → a = 0 ∨ (L.getD a 0 < 255 ∧ E.getD (L.getD a 0) 0 = a) := by decide +kernel
theorem L_E : ∀ n, n < 255 → L.getD (E.getD n 0) 0 = n := by decide +kernel
theorem L_lt : ∀ a, a < 256 → L.getD a 0 < 255 := by decide +kernel

theorem ex_lt (n : Nat) : ex n < 256 := (E_lt _ (Nat.mod_lt _ (by decide))).1
theorem ex_pos (n : Nat) : 0 < ex n := (E_lt _ (Nat.mod_lt _ (by decide))).2
theorem ex_zero : ex 0 = 1 := by decide
theorem ex_succ (n : Nat) : ex (n + 1) = dbl (ex n) := by
  unfold ex
  by_cases h : n % 255 = 254
  · rw [h, show (n + 1) % 255 = 0 by omega, E_wrap]
  · rw [show (n + 1) % 255 = n % 255 + 1 by omega, E_dbl _ (by omega)]
theorem ex_mod (n : Nat) : ex (n % 255) = ex n := by unfold ex; rw [Nat.mod_mod]
theorem lg_lt (a : Nat) (h : a < 256) : lg a < 255 := L_lt a h
theorem ex_lg (a : Nat) (h : a < 256) (h0 : a ≠ 0) : ex (lg a) = a := by
  unfold ex lg
  rcases E_L a h with h1 | ⟨h1, h2⟩
  · exact absurd h1 h0
  · rw [Nat.mod_eq_of_lt h1, h2]
theorem lg_ex (n : Nat) : lg (ex n) = n % 255 := L_E _ (Nat.mod_lt _ (by decide))

theorem xor_lt (a b : Nat) (h : a < 256) (k : b < 256) : a ^^^ b < 256 := Nat.xor_lt_two_pow (n := 8) h k
theorem xlc (a b c : Nat) : a ^^^ (b ^^^ c) = b ^^^ (a ^^^ c) := by rw [← Nat.xor_assoc, Nat.xor_comm a b, Nat.xor_assoc]
theorem xrc (a b c : Nat) : (a ^^^ b) ^^^ c = (a ^^^ c) ^^^ b := by rw [Nat.xor_assoc, Nat.xor_comm b c, Nat.xor_assoc]
theorem two_xor (a b : Nat) : 2 * (a ^^^ b) = 2 * a ^^^ 2 * b := by
  have := Nat.shiftLeft_xor_distrib (a := a) (b := b) (i := 1)
  simpa [Nat.shiftLeft_eq, Nat.mul_comm] using this
theorem bit7 (a : Nat) (h : a < 256) : a.testBit 7 = decide (128 ≤ a) := by revert a; decide +kernel
theorem dbl_xor (a b : Nat) (h : a < 256) (k : b < 256) : dbl (a ^^^ b) = dbl a ^^^ dbl b := by
  have hx := bit7 _ (xor_lt a b h k)
  rw [Nat.testBit_xor, bit7 a h, bit7 b k] at hx
  unfold dbl
  rw [two_xor]
  by_cases ha : a < 128 <;> by_cases hb : b < 128
  · have e : a ^^^ b < 128 := by
      have : decide (128 ≤ a ^^^ b) = false := by rw [← hx]; simp; omega
      simp at this; omega
    rw [if_pos ha, if_pos hb, if_pos e]
  · have e : ¬ a ^^^ b < 128 := by
      have : decide (128 ≤ a ^^^ b) = true := by rw [← hx]; simp; omega
      simp at this; omega
    rw [if_pos ha, if_neg hb, if_neg e, Nat.xor_assoc]
  · have e : ¬ a ^^^ b < 128 := by
      have : decide (128 ≤ a ^^^ b) = true := by rw [← hx]; simp; omega
      simp at this; omega
    rw [if_neg ha, if_pos hb, if_neg e, xrc _ _ 285]
  · have e : a ^^^ b < 128 := by
      have : decide (128 ≤ a ^^^ b) = false := by rw [← hx]; simp; omega
      simp at this; omega
    rw [if_neg ha, if_neg hb, if_pos e]
    rw [Nat.xor_assoc, xlc 285, Nat.xor_self, Nat.xor_zero]

/-- The product, bit by bit of the second factor. -/
def gm : Nat → Nat → Nat → Nat
  | 0, _, _ => 0
  | k + 1, a, b => (if b % 2 = 1 then a else 0) ^^^ gm k (dbl a) (b / 2)
def gmul (a b : Nat) : Nat := gm 8 a b

theorem gm_lt : ∀ k a b, a < 256 → gm k a b < 256
  | 0, _, _, _ => by simp [gm]
  | k + 1, a, b, h => by
    unfold gm
    refine xor_lt _ _ ?_ (gm_lt k _ _ (dbl_lt a h))
    split <;> omega
theorem gmul_lt (a b : Nat) (h : a < 256) : gmul a b < 256 := gm_lt 8 a b h
theorem xor_zero_right (a : Nat) : a ^^^ 0 = a := Nat.xor_zero a
theorem xor4 (a b c d : Nat) : (a ^^^ b) ^^^ (c ^^^ d) = (a ^^^ c) ^^^ (b ^^^ d) := by
  rw [Nat.xor_assoc, Nat.xor_assoc, xlc b]
theorem dbl_zero : dbl 0 = 0 := by decide
theorem gm_dbl : ∀ k a b, a < 256 → gm k (dbl a) b = dbl (gm k a b)
  | 0, _, _, _ => by simp [gm, dbl_zero]
  | k + 1, a, b, h => by
    unfold gm
    rw [gm_dbl k (dbl a) (b / 2) (dbl_lt a h), dbl_xor _ _ (by split <;> omega) (gm_lt k _ _ (dbl_lt a h))]
    split <;> simp [dbl_zero]
theorem mod2_xor (b c : Nat) : (b ^^^ c) % 2 = (b % 2 + c % 2) % 2 := by
  have := Nat.testBit_xor b c 0
  simp only [Nat.testBit_zero] at this
  rcases Nat.mod_two_eq_zero_or_one b with h | h <;> rcases Nat.mod_two_eq_zero_or_one c with h' | h' <;> rcases Nat.mod_two_eq_zero_or_one (b ^^^ c) with h'' | h'' <;> simp_all
theorem div2_xor (b c : Nat) : (b ^^^ c) / 2 = b / 2 ^^^ c / 2 := by
  have := Nat.shiftRight_xor_distrib (a := b) (b := c) (i := 1)
  simpa [Nat.shiftRight_eq_div_pow] using this
theorem gm_xor_right : ∀ k a b c, gm k a (b ^^^ c) = gm k a b ^^^ gm k a c
  | 0, _, _, _ => by simp [gm]
  | k + 1, a, b, c => by
    unfold gm
    rw [div2_xor, gm_xor_right k, mod2_xor, xor4]
    congr 1
    rcases Nat.mod_two_eq_zero_or_one b with h | h <;> rcases Nat.mod_two_eq_zero_or_one c with h' | h' <;> simp [h, h']
theorem gm_xor_left : ∀ k a b c, a < 256 → b < 256 → gm k (a ^^^ b) c = gm k a c ^^^ gm k b c
  | 0, _, _, _, _, _ => by simp [gm]
  | k + 1, a, b, c, h, h' => by
    unfold gm
    rw [dbl_xor a b h h', gm_xor_left k _ _ _ (dbl_lt a h) (dbl_lt b h'), xor4]
    congr 1
    split <;> simp
theorem gmul_one_left : ∀ b, b < 256 → gmul 1 b = b := by decide +kernel
theorem gmul_ex (n b : Nat) (hb : b < 256) : gmul (ex n) b = Nat.repeat dbl n b := by
  induction n with
  | zero => rw [ex_zero, gmul_one_left b hb]; rfl
  | succ n ih =>
    rw [ex_succ]
    show gm 8 _ _ = dbl (Nat.repeat dbl n b)
    rw [gm_dbl 8 _ _ (ex_lt n)]
    congr 1
theorem repeat_ex (n m : Nat) : Nat.repeat dbl n (ex m) = ex (m + n) := by
  induction n with
  | zero => rfl
  | succ n ih =>
    show dbl (Nat.repeat dbl n (ex m)) = _
    rw [ih, ← ex_succ]; rfl
theorem gmul_ex_ex (n m : Nat) : gmul (ex n) (ex m) = ex (n + m) := by
  rw [gmul_ex n _ (ex_lt m), repeat_ex, Nat.add_comm]
theorem gmul_zero_left (b : Nat) : gmul 0 b = 0 := by
  have : ∀ k b, gm k 0 b = 0 := by
    intro k
    induction k with
    | zero => intro b; rfl
    | succ k ih => intro b; unfold gm; rw [dbl_zero, ih]; simp
  exact this 8 b
theorem gmul_zero_right (a : Nat) : gmul a 0 = 0 := by
  have : ∀ k a, gm k a 0 = 0 := by
    intro k
    induction k with
    | zero => intro b; rfl
    | succ k ih => intro b; unfold gm; simp [ih]
  exact this 8 a
theorem gmul_lg (a b : Nat) (h : a < 256) (k : b < 256) (h0 : a ≠ 0) (k0 : b ≠ 0) : gmul a b = ex (lg a + lg b) := by
  rw [← gmul_ex_ex, ex_lg a h h0, ex_lg b k k0]
theorem gmul_comm (a b : Nat) (h : a < 256) (k : b < 256) : gmul a b = gmul b a := by
  by_cases h0 : a = 0
  · subst h0; rw [gmul_zero_left, gmul_zero_right]
  by_cases k0 : b = 0
  · subst k0; rw [gmul_zero_left, gmul_zero_right]
  rw [gmul_lg a b h k h0 k0, gmul_lg b a k h k0 h0, Nat.add_comm]
theorem gmul_ne_zero (a b : Nat) (h : a < 256) (k : b < 256) (h0 : a ≠ 0) (k0 : b ≠ 0) : gmul a b ≠ 0 := by
  rw [gmul_lg a b h k h0 k0]; have := ex_pos (lg a + lg b); omega
theorem ex_add_mod (a b : Nat) : ex (a % 255 + b) = ex (a + b) := by unfold ex; rw [Nat.mod_add_mod]
theorem ex_add_mod' (a b : Nat) : ex (a + b % 255) = ex (a + b) := by unfold ex; rw [Nat.add_mod_mod]
theorem gmul_assoc (a b c : Nat) (h : a < 256) (k : b < 256) (l : c < 256) : gmul (gmul a b) c = gmul a (gmul b c) := by
  by_cases h0 : a = 0
  · subst h0; simp only [gmul_zero_left]
  by_cases k0 : b = 0
  · subst k0; simp only [gmul_zero_left, gmul_zero_right]
  by_cases l0 : c = 0
  · subst l0; simp only [gmul_zero_right]
  rw [gmul_lg _ c (gmul_lt a b h) l (gmul_ne_zero a b h k h0 k0) l0, gmul_lg a _ h (gmul_lt b c k) h0 (gmul_ne_zero b c k l k0 l0),
    gmul_lg a b h k h0 k0, gmul_lg b c k l k0 l0, lg_ex, lg_ex, ex_add_mod, ex_add_mod', Nat.add_assoc]
theorem gmul_xor (a b c : Nat) : gmul a (b ^^^ c) = gmul a b ^^^ gmul a c := gm_xor_right 8 a b c
theorem gmul_xor_left (a b c : Nat) (h : a < 256) (k : b < 256) : gmul (a ^^^ b) c = gmul a c ^^^ gmul b c := gm_xor_left 8 a b c h k
theorem gmul_one (a : Nat) (h : a < 256) : gmul a 1 = a := by rw [gmul_comm a 1 h (by decide), gmul_one_left a h]
end Go.Proofs.Ytdmdcgcmappliaa.Gf
