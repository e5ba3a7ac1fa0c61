/-
  Gauss and Jordan by entries: what a step keeps, what comes out, and why there is a way where rows are free. No program in sight.
-/
import Derived.Test.YtdmdcgcmappliaaMatPure
namespace Go.Proofs.Ytdmdcgcmappliaa.Mat
open Go.Proofs.Ytdmdcgcmappliaa.Gf

def EqOn (n m : Nat) (A B : Fn) : Prop := ∀ i, i < n → ∀ j, j < m → A i j = B i j
theorem EqOn.refl (n m : Nat) (A : Fn) : EqOn n m A A := fun _ _ _ _ => rfl
theorem EqOn.symm {n m : Nat} {A B : Fn} (h : EqOn n m A B) : EqOn n m B A := fun i hi j hj => (h i hi j hj).symm
theorem EqOn.trans {n m : Nat} {A B C : Fn} (h : EqOn n m A B) (k : EqOn n m B C) : EqOn n m A C := fun i hi j hj => (h i hi j hj).trans (k i hi j hj)
theorem EqOn.mul {n k m : Nat} {A A' B B' : Fn} (h : EqOn n k A A') (g : EqOn k m B B') : EqOn n m (mul k A B) (mul k A' B') :=
  fun i hi j hj => mul_congr k i j (fun l hl => h i hi l hl) (fun l hl => g l hl j hj)
theorem EqOn.assoc (n k l m : Nat) (A B C : Fn) : EqOn n m (Mat.mul l (Mat.mul k A B) C) (Mat.mul k A (Mat.mul l B C)) := fun i _ j _ => mul_assoc k l A B C i j
theorem EqOn.one_mul (n m : Nat) (A : Fn) : EqOn n m (Mat.mul n one A) A := fun i hi j _ => Mat.one_mul n A i j hi
theorem EqOn.mul_one (n m : Nat) (A : Fn) : EqOn n m (Mat.mul m A one) A := fun i _ j hj => Mat.mul_one m A i j hj

theorem swp_on {n : Nat} {A B : Fn} {c p : Nat} (hc : c < n) (hp : p < n) (h : EqOn n n A B) : EqOn n n (swp c p A) (swp c p B) := by
  intro i hi j hj
  unfold swp
  by_cases e : i = c
  · rw [if_pos e, if_pos e, h p hp j hj]
  · rw [if_neg e, if_neg e]
    by_cases e2 : i = p
    · rw [if_pos e2, if_pos e2, h c hc j hj]
    · rw [if_neg e2, if_neg e2, h i hi j hj]
theorem scl_on {n : Nat} {A B : Fn} {c : Nat} {f : UInt8} (hc : c < n) (h : EqOn n n A B) : EqOn n n (scl c f A) (scl c f B) := by
  intro i hi j hj
  unfold scl
  rw [h c hc j hj, h i hi j hj]
theorem clr_on {n : Nat} {A B : Fn} {c : Nat} {g : Nat → UInt8} (hc : c < n) (h : EqOn n n A B) : EqOn n n (clr c g A) (clr c g B) := by
  intro i hi j hj
  unfold clr
  rw [h c hc j hj, h i hi j hj]

/-- What holds of the two halves: X = Y A; A = Z X for a Z that Y undoes. -/
def Kept (n : Nat) (A X Y : Fn) : Prop := EqOn n n X (mul n Y A) ∧ ∃ Z, EqOn n n A (mul n Z X) ∧ EqOn n n (mul n Z Y) one
theorem Kept.start (n : Nat) (A : Fn) : Kept n A A one :=
  ⟨(EqOn.one_mul n n A).symm, one, (EqOn.one_mul n n A).symm, EqOn.one_mul n n one⟩
theorem Kept.on {n : Nat} {A X Y X' Y' : Fn} (h : Kept n A X Y) (hX : EqOn n n X' X) (hY : EqOn n n Y' Y) : Kept n A X' Y' := by
  obtain ⟨h1, Z, h2, h3⟩ := h
  refine ⟨hX.trans (h1.trans (EqOn.mul hY.symm (EqOn.refl _ _ _))), Z, h2.trans (EqOn.mul (EqOn.refl _ _ _) hX.symm), ?_⟩
  exact (EqOn.mul (EqOn.refl _ _ _) hY).trans h3
theorem Kept.swp {n : Nat} {A X Y : Fn} (h : Kept n A X Y) {c p : Nat} (hc : c < n) (hp : p < n) : Kept n A (swp c p X) (swp c p Y) := by
  obtain ⟨h1, Z, h2, h3⟩ := h
  refine ⟨(swp_on hc hp h1).trans fun i _ j _ => (swp_mul n c p Y A i j).symm, swpc c p Z, h2.trans fun i _ j _ => (swpc_mul n c p hc hp Z X i j).symm, ?_⟩
  exact EqOn.trans (fun i _ j _ => swpc_mul n c p hc hp Z Y i j) h3
theorem Kept.scl {n : Nat} {A X Y : Fn} (h : Kept n A X Y) {c : Nat} {f f' : UInt8} (hc : c < n) (hf : g8 f f' = 1) : Kept n A (scl c f X) (scl c f Y) := by
  obtain ⟨h1, Z, h2, h3⟩ := h
  refine ⟨(scl_on hc h1).trans fun i _ j _ => (scl_mul n c f Y A i j).symm, sclc c f' Z, h2.trans fun i _ j _ => (sclc_mul n c f f' hf Z X i j).symm, ?_⟩
  exact EqOn.trans (fun i _ j _ => sclc_mul n c f f' hf Z Y i j) h3
theorem Kept.clr {n : Nat} {A X Y : Fn} (h : Kept n A X Y) {c : Nat} (hc : c < n) (g : Nat → UInt8) : Kept n A (clr c g X) (clr c g Y) := by
  obtain ⟨h1, Z, h2, h3⟩ := h
  refine ⟨(clr_on hc h1).trans fun i _ j _ => (clr_mul n c g Y A i j).symm, clrc n c g Z, h2.trans fun i _ j _ => (clrc_mul n c hc g Z X i j).symm, ?_⟩
  exact EqOn.trans (fun i _ j _ => clrc_mul n c hc g Z Y i j) h3

/-- The columns ahead of c are the unit's. -/
def Done (n c : Nat) (X : Fn) : Prop := ∀ i, i < n → ∀ j, j < c → X i j = one i j
theorem Done.step {n c p : Nat} {X : Fn} (h : Done n c X) (hc : c < n) (hp : p < n) (hcp : c ≤ p) (hx : X p c ≠ 0) :
    let X1 := swp c p X
    let X2 := scl c (gi (X1 c c)) X1
    Done n (c + 1) (clr c (fun i => X2 i c) X2) := by
  intro X1 X2 i hi j hj
  have x1c : X1 c c = X p c := by show swp c p X c c = _; unfold swp; rw [if_pos rfl]
  have x2c : X2 c c = 1 := by show scl c _ X1 c c = _; unfold scl; rw [if_pos rfl, x1c, g8_gi hx]
  have low : ∀ i, i < n → ∀ j, j < c → X2 i j = one i j := by
    intro i hi j hj
    have z1 : X c j = 0 := by rw [h c hc j hj]; unfold one; rw [if_neg (by omega)]
    have z2 : X p j = 0 := by rw [h p hp j hj]; unfold one; rw [if_neg (by omega)]
    have y1 : ∀ i, i < n → X1 i j = one i j := by
      intro i hi
      show swp c p X i j = _
      unfold swp
      by_cases e : i = c
      · rw [if_pos e, z2, e]; unfold one; rw [if_neg (by omega)]
      · rw [if_neg e]
        by_cases e2 : i = p
        · rw [if_pos e2, z1, e2]; unfold one; rw [if_neg (by omega)]
        · rw [if_neg e2, h i hi j hj]
    show scl c _ X1 i j = _
    unfold scl
    by_cases e : i = c
    · rw [if_pos e, y1 c hc, e]
      unfold one
      rw [if_neg (by omega), g8_zero_left]
    · rw [if_neg e, y1 i hi]
  show clr c _ X2 i j = _
  unfold clr
  by_cases e : i = c
  · rw [if_pos e]
    by_cases e2 : j = c
    · rw [e, e2, x2c]; unfold one; rw [if_pos rfl]
    · exact low i hi j (by omega)
  · rw [if_neg e]
    by_cases e2 : j = c
    · rw [e2, x2c, g8_one_left, xself]; unfold one; rw [if_neg e]
    · rw [low i hi j (by omega), low c hc j (by omega)]
      have : one c j = 0 := by unfold one; rw [if_neg (by omega)]
      rw [this, g8_zero_left, xzero]

/-- Only nought is sent to nought. -/
def Free (n : Nat) (A : Fn) : Prop := ∀ v : Nat → UInt8, (∀ i, i < n → sm n (fun k => g8 (v k) (A i k)) = 0) → ∀ k, k < n → v k = 0
theorem Free.on {n : Nat} {A B : Fn} (h : Free n A) (e : EqOn n n A B) : Free n B := fun v hv => h v fun i hi => by
  rw [← hv i hi]; exact sm_congr n fun k hk => by rw [e i hi k hk]
theorem apply_mul (n : Nat) (A B : Fn) (v : Nat → UInt8) (i : Nat) : sm n (fun k => g8 (v k) (mul n A B i k)) = sm n (fun l => g8 (sm n fun k => g8 (v k) (B l k)) (A i l)) := by
  have := mul_assoc n n A B (fun k _ => v k) i 0
  exact this
theorem Free.of_left {n : Nat} {L A : Fn} (h : EqOn n n (mul n L A) one) : Free n A := by
  intro v hv k hk
  have e : sm n (fun j => g8 (v j) (mul n L A k j)) = 0 := by
    rw [apply_mul]
    exact sm_none n _ fun l hl => by rw [hv l hl, g8_zero_left]
  have e2 : sm n (fun j => g8 (v j) (mul n L A k j)) = v k := by
    rw [sm_congr n (g := fun j => g8 (v j) (one k j)) (fun j hj => by rw [h k hk j hj])]
    exact Mat.mul_one n (fun _ j => v j) 0 k hk ▸ (by
      rw [sm_one n _ k hk (fun j _ hj => by unfold one; rw [if_neg (fun e => hj e.symm), g8_zero])]
      rw [Mat.mul_one n (fun _ j => v j) 0 k hk]
      unfold one; rw [if_pos rfl, g8_one])
  rw [← e2, e]
theorem Free.mul {n : Nat} {A B : Fn} (hA : Free n A) (hB : Free n B) : Free n (mul n A B) := by
  intro v hv
  refine hB v fun l hl => ?_
  exact hA (fun l => sm n fun k => g8 (v k) (B l k)) (fun i hi => by rw [← apply_mul]; exact hv i hi) l hl
/-- Where no row from c on has something in column c, the matrix is not free. -/
theorem stuck {n c : Nat} {A X Y : Fn} (hk : Kept n A X Y) (hd : Done n c X) (hc : c < n) (hz : ∀ p, c ≤ p → p < n → X p c = 0) : ¬ Free n A := by
  intro hf
  obtain ⟨_, Z, h2, _⟩ := hk
  let v : Nat → UInt8 := fun k => if k = c then 1 else if k < c then X k c else 0
  have hX : ∀ i, i < n → sm n (fun k => g8 (v k) (X i k)) = 0 := by
    intro i hi
    by_cases hic : i < c
    · rw [sm_two n _ i c hi hc (by omega)]
      have e1 : g8 (v i) (X i i) = X i c := by
        show g8 (if i = c then 1 else if i < c then X i c else 0) _ = _
        rw [if_neg (by omega), if_pos hic, hd i hi i hic]
        unfold one; rw [if_pos rfl, g8_one]
      have e2 : g8 (v c) (X i c) = X i c := by
        show g8 (if c = c then 1 else _) _ = _
        rw [if_pos rfl, g8_one_left]
      rw [e1, e2, xself, zerox]
      refine sm_none n _ fun k hk => ?_
      by_cases e : k = i ∨ k = c
      · rw [if_pos e]
      · rw [if_neg e]
        by_cases hkc : k < c
        · rw [hd i hi k hkc]
          unfold one; rw [if_neg (fun h => e (.inl h.symm)), g8_zero]
        · have : v k = 0 := by
            show (if k = c then 1 else if k < c then X k c else 0) = (0 : UInt8)
            rw [if_neg (fun h => e (.inr h)), if_neg hkc]
          rw [this, g8_zero_left]
    · refine sm_none n _ fun k hk => ?_
      by_cases hkc : k < c
      · rw [hd i hi k hkc]
        unfold one; rw [if_neg (by omega), g8_zero]
      · by_cases e : k = c
        · rw [e, hz i (by omega) hi, g8_zero]
        · have : v k = 0 := by
            show (if k = c then 1 else if k < c then X k c else 0) = (0 : UInt8)
            rw [if_neg e, if_neg hkc]
          rw [this, g8_zero_left]
  have hA : ∀ i, i < n → sm n (fun k => g8 (v k) (A i k)) = 0 := by
    intro i hi
    rw [sm_congr n (g := fun k => g8 (v k) (Mat.mul n Z X i k)) (fun k hk => by rw [h2 i hi k hk]), apply_mul]
    exact sm_none n _ fun l hl => by rw [hX l hl, g8_zero_left]
  have := hf v hA c hc
  have e : v c = 1 := by show (if c = c then (1 : UInt8) else _) = 1; rw [if_pos rfl]
  rw [e] at this
  exact absurd this (by decide)
theorem Kept.fin {n : Nat} {A X Y : Fn} (h : Kept n A X Y) (hd : Done n n X) : EqOn n n (mul n Y A) one ∧ EqOn n n (mul n A Y) one := by
  obtain ⟨h1, Z, h2, h3⟩ := h
  have hX : EqOn n n X one := hd
  refine ⟨h1.symm.trans hX, ?_⟩
  have hZ : EqOn n n A Z := h2.trans ((EqOn.mul (EqOn.refl _ _ _) hX).trans (EqOn.mul_one n n Z))
  exact (EqOn.mul hZ (EqOn.refl _ _ _)).trans h3
theorem inv_unique {n : Nat} {A Y Y' : Fn} (h : EqOn n n (mul n Y A) one) (k : EqOn n n (mul n A Y') one) : EqOn n n Y Y' := by
  have e1 : EqOn n n (Mat.mul n Y (Mat.mul n A Y')) Y := (EqOn.mul (EqOn.refl _ _ _) k).trans (EqOn.mul_one n n Y)
  have e2 : EqOn n n (Mat.mul n (Mat.mul n Y A) Y') Y' := (EqOn.mul h (EqOn.refl _ _ _)).trans (EqOn.one_mul n n Y')
  exact e1.symm.trans ((EqOn.assoc n n n n Y A Y').symm.trans e2)

/-- A polynomial by its coefficients, the least first. -/
def ev : List UInt8 → UInt8 → UInt8
  | [], _ => 0
  | a :: l, x => a ^^^ g8 (ev l x) x
/-- .. divided by (x + r). -/
def dv (r : UInt8) : List UInt8 → List UInt8
  | [] => []
  | [_] => []
  | _ :: b :: l => ev (b :: l) r :: dv r (b :: l)
theorem dv_len (r : UInt8) : ∀ (a : UInt8) (l : List UInt8), (dv r (a :: l)).length = l.length
  | _, [] => rfl
  | _, b :: l => by show (dv r (b :: l)).length + 1 = _; rw [dv_len r b l]; rfl
theorem ev_dv (r x : UInt8) : ∀ (a : UInt8) (l : List UInt8), ev (a :: l) x = g8 (ev (dv r (a :: l)) x) (x ^^^ r) ^^^ ev (a :: l) r
  | a, [] => by show a ^^^ g8 0 x = g8 0 (x ^^^ r) ^^^ (a ^^^ g8 0 r); simp only [g8_zero_left, xzero, zerox]
  | a, b :: l => by
    show a ^^^ g8 (ev (b :: l) x) x = g8 (ev (b :: l) r ^^^ g8 (ev (dv r (b :: l)) x) x) (x ^^^ r) ^^^ (a ^^^ g8 (ev (b :: l) r) r)
    rw [ev_dv r x b l]
    generalize ev (b :: l) r = u
    generalize ev (dv r (b :: l)) x = q
    rw [g8_xor_left, g8_xor_left, g8_assoc, g8_assoc, g8_comm (x ^^^ r) x, g8_xor u, xcomm _ (g8 q (g8 x (x ^^^ r))), xassoc (g8 q _), xcomm a (g8 u r), ← xassoc _ (g8 u r), xtwice, ← xassoc, xcomm, ← xassoc, xcomm]
theorem dv_zero (r : UInt8) : ∀ (a : UInt8) (l : List UInt8), (∀ y ∈ dv r (a :: l), y = 0) → ev (a :: l) r = 0 → ∀ y ∈ a :: l, y = 0
  | a, [], _, h, y, hy => by
    have e : a = 0 := by
      have : a ^^^ g8 0 r = 0 := h
      rwa [g8_zero_left, xzero] at this
    simp at hy; rw [hy, e]
  | a, b :: l, hd, h, y, hy => by
    have e0 : ev (b :: l) r = 0 := hd _ (by unfold dv; simp)
    have ih := dv_zero r b l (fun y hy => hd y (by unfold dv; simp [hy])) e0
    have e : a = 0 := by
      have : a ^^^ g8 (ev (b :: l) r) r = 0 := h
      rwa [e0, g8_zero_left, xzero] at this
    rcases List.mem_cons.1 hy with h1 | h1
    · rw [h1, e]
    · exact ih y h1
/-- As many different roots as coefficients: nought. -/
theorem roots : ∀ (m : Nat) (l xs : List UInt8), l.length = m → m ≤ xs.length → xs.Nodup → (∀ x ∈ xs, ev l x = 0) → ∀ a ∈ l, a = 0
  | 0, l, _, h, _, _, _, a, ha => by
    have : l = [] := List.length_eq_zero_iff.1 h
    subst this; cases ha
  | m + 1, [], _, h, _, _, _, _, _ => by simp at h
  | m + 1, a :: l, [], _, h, _, _, _, _ => by simp at h
  | m + 1, a :: l, r :: xs, hl, hx, hn, hr, y, hy => by
    have e0 := hr r (by simp)
    refine dv_zero r a l ?_ e0 y hy
    refine roots m (dv r (a :: l)) xs (by rw [dv_len]; simpa using hl) (by simpa using hx) (List.nodup_cons.1 hn).2 fun x hx' => ?_
    have e1 := hr x (by simp [hx'])
    rw [ev_dv r x a l, e0, xzero] at e1
    refine Classical.byContradiction fun hne => ?_
    refine g8_ne_zero hne (fun h => ?_) e1
    have := x_eq_zero h
    subst this
    exact (List.nodup_cons.1 hn).1 hx'
/-- Powers. -/
def pw (x : UInt8) : Nat → UInt8
  | 0 => 1
  | n + 1 => g8 (pw x n) x
theorem sm_front : ∀ (n : Nat) (f : Nat → UInt8), sm (n + 1) f = f 0 ^^^ sm n (fun i => f (i + 1))
  | 0, f => by show 0 ^^^ f 0 = f 0 ^^^ 0; rw [zerox, xzero]
  | n + 1, f => by
    show sm (n + 1) f ^^^ f (n + 1) = f 0 ^^^ (sm n (fun i => f (i + 1)) ^^^ f (n + 1))
    rw [sm_front n f, xassoc]
theorem ev_sm (x : UInt8) : ∀ (n : Nat) (v : Nat → UInt8), sm n (fun k => g8 (v k) (pw x k)) = ev ((List.range n).map v) x
  | 0, _ => rfl
  | n + 1, v => by
    rw [sm_front, List.range_succ_eq_map, List.map_cons, List.map_map]
    show g8 (v 0) 1 ^^^ _ = v 0 ^^^ g8 (ev ((List.range n).map (v ∘ Nat.succ)) x) x
    rw [g8_one, ← ev_sm x n (v ∘ Nat.succ), sm_mul]
    congr 1
    exact sm_congr n fun k _ => by show g8 (v (k + 1)) (g8 (pw x k) x) = _; rw [g8_assoc]; rfl
/-- Rows of powers of different numbers are free. -/
theorem vand_free (n : Nat) (xs : List UInt8) (hl : xs.length = n) (hn : xs.Nodup) : Free n (fun i j => pw (xs.getD i 0) j) := by
  intro v hv k hk
  have := roots n ((List.range n).map v) xs (by simp) (by omega) hn (fun x hx => by
    obtain ⟨i, hi⟩ := List.getElem?_of_mem hx
    have hi2 : i < n := by have := (List.getElem?_eq_some_iff.1 hi).1; omega
    have e := hv i hi2
    rw [← ev_sm]
    have hx2 : xs.getD i 0 = x := by rw [List.getD_eq_getElem?_getD, hi]; rfl
    rw [← e]
    exact sm_congr n fun k _ => by show g8 (v k) (pw x k) = g8 (v k) (pw (xs.getD i 0) k); rw [hx2]) (v k) (List.mem_map.2 ⟨k, by simp [hk], rfl⟩)
  exact this
end Go.Proofs.Ytdmdcgcmappliaa.Mat
