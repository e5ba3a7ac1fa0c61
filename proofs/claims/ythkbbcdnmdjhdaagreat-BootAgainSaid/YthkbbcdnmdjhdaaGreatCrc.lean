/-
  crc: More, Sum, Bytes.
-/
import Derived.Test.YthkbbcdnmdjhdaaGreatA1
import Derived.Laws.BitsAllLaws
/-! XCrc: crc: More, Sum, Bytes. -/
namespace Go.Proofs.YthkbbcdnmdjhdaaGreat
open Go.RowKit
set_option maxRecDepth 100000
set_option maxHeartbeats 4000000
attribute [local go_sem] min_int2 max_int2

/-- One bit of the sum. -/
def cstep (s : Nat) : Nat := if s % 2 = 1 then s / 2 ^^^ 2197175160 else s / 2
def csteps (s : Nat) : Nat → Nat
  | 0 => s
  | k + 1 => cstep (csteps s k)
def cone (s : Nat) (x : UInt8) : Nat := csteps (s ^^^ x.toNat) 8
def cbody (s : Nat) : List UInt8 → Nat
  | [] => s
  | x :: l => cbody (cone s x) l
def cmore (s : Nat) (b : List UInt8) : Nat := 4294967295 - cbody (4294967295 - s) b
def csum (b : List UInt8) : Nat := cmore 0 b
theorem xor32 {a b : Nat} (ha : a < 4294967296) (hb : b < 4294967296) : a ^^^ b < 4294967296 := Nat.xor_lt_two_pow (n := 32) ha hb
theorem cstep_lt {s : Nat} (h : s < 4294967296) : cstep s < 4294967296 := by
  unfold cstep
  split
  · exact xor32 (by omega) (by decide)
  · omega
theorem csteps_lt {s : Nat} (h : s < 4294967296) : ∀ k, csteps s k < 4294967296
  | 0 => h
  | k + 1 => cstep_lt (csteps_lt h k)
theorem cone_lt {s : Nat} (h : s < 4294967296) (x : UInt8) : cone s x < 4294967296 := csteps_lt (xor32 h (Nat.lt_trans x.toNat_lt (by decide))) 8
theorem cbody_lt : ∀ {l : List UInt8} {s : Nat}, s < 4294967296 → cbody s l < 4294967296
  | [], _, h => h
  | x :: l, _, h => cbody_lt (l := l) (cone_lt h x)
theorem cbody_snoc : ∀ (l : List UInt8) (s : Nat) (x : UInt8), cbody s (l ++ [x]) = cone (cbody s l) x
  | [], _, _ => rfl
  | y :: l, s, x => cbody_snoc l (cone s y) x
theorem cmore_lt (s : Nat) (b : List UInt8) : cmore s b < 4294967296 := by unfold cmore; omega
theorem csum_lt (b : List UInt8) : csum b < 4294967296 := cmore_lt 0 b

theorem compl32 (s : Nat) (h : s < 4294967296) : bits .xor .u32 IntKind.u32.max (s : Int) = ((4294967295 - s : Nat) : Int) := by
  have e : IntKind.u32.max = ((4294967295 : Nat) : Int) := by decide
  rw [e, u32_xor_nat _ _ (by decide) h]
  congr 1
  apply Nat.eq_of_testBit_eq
  intro i
  have h1 := Nat.testBit_two_pow_sub_succ (n := 32) (x := s) (by omega) i
  rw [show 2 ^ 32 - (s + 1) = 4294967295 - s by omega] at h1
  rw [h1, Nat.testBit_xor, show (4294967295 : Nat) = 2 ^ 32 - 1 by decide, Nat.testBit_two_pow_sub_one]
  by_cases hi : i < 32
  · simp [hi]
  · have : s.testBit i = false := Nat.testBit_lt_two_pow (Nat.lt_of_lt_of_le h (by rw [show (4294967296 : Nat) = 2 ^ 32 by decide]; exact Nat.pow_le_pow_right (by decide) (by omega)))
    simp [hi, this]
theorem and_one32 (r : Nat) (h : r < 4294967296) : bits .and .u32 (r : Int) 1 = ((r % 2 : Nat) : Int) := by
  have := u32_and_nat r 1 h (by decide)
  rw [Nat.and_one_is_mod] at this
  exact this
theorem crcmore_any (v : Value) (b : List UInt8) (hl : b.length ≤ maxLen) (s : Nat) (hs : s < 4294967296) (w : World) (hb : Bytes w v b) :
    Calls Tryz.prog 119 #[.int .u32 s, v] w fun e w' => e = .returned (.int .u32 (cmore s b : Nat)) ∧ w = w' := by
  obtain ⟨a, c, rfl⟩ := hb.slice
  have HB := Lib.hid hb
  clear hb
  unfold maxLen at hl
  have hcs : 4294967295 - s < 4294967296 := by omega
  have e0 := compl32 s hs
  go_enter Tryz.func119, Tryz.ntmps119
  go_wp2_with fail
  clear e0
  go_loop [0, 12] (fun v0 v12 => ∃ (i : Nat), i ≤ b.length ∧ v12 = .int .i64 (i : Nat) ∧ v0 = .int .u32 (cbody (4294967295 - s) (b.take i) : Nat)) (fun _ v12 => (b.length - intOf v12).toNat)
  case atStart => exact ⟨0, by omega, rfl, by rw [List.take_zero]; rfl⟩
  case round =>
    obtain ⟨i, hi, rfl, rfl⟩ := hrel
    by_cases hlt : i < b.length
    · have hlt' : (i : Int) < (b.length : Int) := by omega
      obtain ⟨rb, ro, rfl, c1⟩ := HB.out.at (show (bvs b)[i]? = some (bv (b.getD i 0)) by rw [bvs_get hlt, List.getD_eq_getElem?_getD, List.getElem?_eq_getElem hlt]; rfl)
      obtain ⟨x, hx⟩ : ∃ x, b.getD i 0 = x := ⟨_, rfl⟩
      rw [hx] at c1
      obtain ⟨t, ht⟩ : ∃ t, cbody (4294967295 - s) (b.take i) = t := ⟨_, rfl⟩
      have htl : t < 4294967296 := by rw [← ht]; exact cbody_lt hcs
      rw [ht]
      have hnx : cbody (4294967295 - s) (b.take (i + 1)) = cone t x := by
        rw [List.take_add_one, List.getElem?_eq_getElem hlt]
        show cbody _ (_ ++ [_]) = _
        rw [cbody_snoc, ht, ← hx, List.getD_eq_getElem?_getD, List.getElem?_eq_getElem hlt]; rfl
      have HN := Lib.hid hnx
      obtain ⟨q, hq⟩ : ∃ q, t ^^^ x.toNat = q := ⟨_, rfl⟩
      have hxl : x.toNat < 4294967296 := Nat.lt_trans x.toNat_lt (by decide)
      have e1 : bits .xor .u32 (t : Int) ((x.toNat : Int) % 4294967296) = (q : Int) := by rw [Int.emod_eq_of_lt (by omega) (by omega), u32_xor_nat t x.toNat htl hxl, hq]
      have hql : q < 4294967296 := by rw [← hq]; exact xor32 htl hxl
      have HQ := Lib.hid hq
      clear ht hx hnx hq hxl
      go_wp2_with fail
      clear e1
      go_loop [0, 20] (fun v0 v20 => ∃ (k : Nat), k ≤ 8 ∧ v20 = .int .i64 (k : Nat) ∧ v0 = .int .u32 (csteps q k : Nat)) (fun _ v20 => (8 - intOf v20).toNat)
      case atStart => exact ⟨0, by omega, rfl, rfl⟩
      case round =>
        obtain ⟨k, hk, rfl, rfl⟩ := hrel
        by_cases hlk : k < 8
        · have hlk' : (k : Int) < 8 := by omega
          have hc := csteps_lt hql k
          have hnk : csteps q (k + 1) = cstep (csteps q k) := rfl
          obtain ⟨r, hr⟩ : ∃ r, csteps q k = r := ⟨_, rfl⟩
          rw [hr] at hc hnk ⊢
          have HK := Lib.hid hnk
          clear hnk hr
          by_cases hp : r % 2 = 1
          · have e2 : bits .and .u32 (r : Int) 1 = 1 := by rw [and_one32 r hc, hp]; rfl
            have E3 := Lib.hid (show (r : Int) / 2 = ((r / 2 : Nat) : Int) by omega)
            have E4 := Lib.hid (show bits .xor .u32 ((r / 2 : Nat) : Int) 2197175160 = ((r / 2 ^^^ 2197175160 : Nat) : Int) from u32_xor_nat (r / 2) 2197175160 (by omega) (by decide))
            have HK2 := Lib.hid (show csteps q (k + 1) = r / 2 ^^^ 2197175160 by rw [HK.out]; unfold cstep; rw [if_pos hp])
            clear hp
            go_wp2_with fail
            exact ⟨⟨k + 1, by omega, by go_num, by rw [E3.out, E4.out, HK2.out]⟩, by simp [intOf]; omega⟩
          · have e2 : bits .and .u32 (r : Int) 1 = 0 := by rw [and_one32 r hc, show r % 2 = 0 by omega]; rfl
            have E3 := Lib.hid (show (r : Int) / 2 = ((r / 2 : Nat) : Int) by omega)
            have HK2 := Lib.hid (show csteps q (k + 1) = r / 2 by rw [HK.out]; unfold cstep; rw [if_neg hp])
            clear hp
            go_wp2_with fail
            exact ⟨⟨k + 1, by omega, by go_num, by rw [E3.out, HK2.out]⟩, by simp [intOf]; omega⟩
        · obtain rfl : k = 8 := by omega
          have HN2 := Lib.hid (show csteps q 8 = cone t x by rw [← HQ.out, cone])
          clear hlk
          go_wp2_with fail
          exact ⟨⟨i + 1, by omega, by go_num, by rw [HN.out, HN2.out]⟩, by simp [intOf]; omega⟩
    · obtain rfl : i = b.length := by omega
      have e1 := compl32 _ (cbody_lt hcs (l := b))
      rw [List.take_length]
      clear hlt
      have HM := Lib.hid (show cmore s b = 4294967295 - cbody (4294967295 - s) b by rw [cmore])
      go_wp2_with fail
      go_ret
      exact ⟨by rw [HM.out]; rfl, rfl⟩
theorem crcsum_any (v : Value) (b : List UInt8) (hl : b.length ≤ maxLen) (w : World) (hb : Bytes w v b) :
    Calls Tryz.prog 94 #[v] w fun e w' => e = .returned (.int .u32 (csum b : Nat)) ∧ w = w' := by
  obtain ⟨a, c, rfl⟩ := hb.slice
  have HB := Lib.hid hb
  clear hb
  go_enter Tryz.func94, Tryz.ntmps94
  go_wp2_with fail
  refine (crcmore_any _ b hl 0 (by decide) _ HB.out).mono ?_; rintro e w1 ⟨rfl, rfl⟩
  go_wp2_with fail
  go_ret
  exact ⟨rfl, rfl⟩
/-- A sum as bytes. -/
def cbytes (s : Nat) : List UInt8 := [UInt8.ofNat s, UInt8.ofNat (s / 256), UInt8.ofNat (s / 65536), UInt8.ofNat (s / 16777216)]
theorem crcbytes_any (s : Nat) (hs : s < 4294967296) (w : World) :
    Calls Tryz.prog 93 #[.int .u32 s] w fun e w' => e = .returned (.slice (some ⟨w.heap.size, 0, none⟩) 4 4) ∧ Own w' w.heap.size 5 (.slice (some ⟨w.heap.size, 0, none⟩) 4 4) (bvs (cbytes s)) ∧ Ext w w' := by
  have e : bvs (cbytes s) = [.int .u8 ((s : Int) % 256), .int .u8 ((s : Int) / 256 % 256), .int .u8 ((s : Int) / 65536 % 256), .int .u8 ((s : Int) / 16777216)] := by
    have h1 : ∀ n : Nat, bv (UInt8.ofNat n) = .int .u8 ((n % 256 : Nat) : Int) := fun n => by unfold bv; rw [UInt8.toNat_ofNat']
    show [bv _, bv _, bv _, bv _] = _
    rw [h1, h1, h1, h1, Nat.mod_eq_of_lt (show s / 16777216 < 256 by omega)]
    rfl
  have ho := Own.new w w.heap.size 5 #[.int .u8 ((s : Int) % 256), .int .u8 ((s : Int) / 256 % 256), .int .u8 ((s : Int) / 65536 % 256), .int .u8 ((s : Int) / 16777216)] (Nat.le_refl _) (by unfold maxLen; simp)
  have HO := Lib.hid (show Own (w.alloc (.cells #[.int .u8 ((s : Int) % 256), .int .u8 ((s : Int) / 256 % 256), .int .u8 ((s : Int) / 65536 % 256), .int .u8 ((s : Int) / 16777216)] 5)) w.heap.size 5 (.slice (some ⟨w.heap.size, 0, none⟩) 4 4) (bvs (cbytes s)) by rw [e]; exact ho)
  have HX := Lib.hid (show Ext w (w.alloc (.cells #[.int .u8 ((s : Int) % 256), .int .u8 ((s : Int) / 256 % 256), .int .u8 ((s : Int) / 65536 % 256), .int .u8 ((s : Int) / 16777216)] 5)) from (Ext.refl w).alloc (Nat.le_refl _) _)
  clear e ho
  go_enter Tryz.func93, Tryz.ntmps93
  go_wp2_with fail
  go_ret
  exact ⟨rfl, HO.out, HX.out⟩
end Go.Proofs.YthkbbcdnmdjhdaaGreat
