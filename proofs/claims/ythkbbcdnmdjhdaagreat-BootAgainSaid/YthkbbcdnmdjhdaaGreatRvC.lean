/-
  The reference's crc: More, Sum, little, Bytes.
-/
import Derived.Test.YthkbbcdnmdjhdaaGreatCrc
import Derived.Test.YthkbbcdnmdjhdaaGreatD1
/-! XRvC: The reference's crc: More, Sum, little, Bytes. -/
namespace Go.Proofs.YthkbbcdnmdjhdaaGreat
open Go.RowKit
set_option maxRecDepth 100000
set_option maxHeartbeats 4000000
attribute [local go_sem] min_int2 max_int2

theorem rcrcmore_any (v : Value) (b : List UInt8) (hl : b.length ≤ maxLen) (s : Nat) (hs : s < 4294967296) (w : World) (hb : Bytes w v b) :
    Calls Tryz.prog 127 #[.int .u32 s, v] w fun e w' => e = .returned (.int .u32 (cmore s b : Nat)) ∧ w = w' := by
  obtain ⟨a, c, rfl⟩ := hb.slice
  have HB := Lib.hid hb
  clear hb
  unfold maxLen at hl
  have hcs : 4294967295 - s < 4294967296 := by omega
  have e0 := compl32 s hs
  go_enter Tryz.func127, Tryz.ntmps127
  go_wp2_with fail
  clear e0
  go_loop [0, 5] (fun v0 v12 => ∃ (i : Nat), i ≤ b.length ∧ v12 = .int .i64 (i : Nat) ∧ v0 = .int .u32 (cbody (4294967295 - s) (b.take i) : Nat)) (fun _ v12 => (b.length - intOf v12).toNat)
  case atStart => exact ⟨0, by omega, rfl, by rw [List.take_zero]; rfl⟩
  case round =>
    obtain ⟨i, hi, rfl, rfl⟩ := hrel
    by_cases hlt : i < b.length
    · have hlt' : (i : Int) < (b.length : Int) := by omega
      obtain ⟨rb, ro, rfl, c1⟩ := HB.out.at (show (bvs b)[i]? = some (bv (b.getD i 0)) by rw [bvs_get hlt, List.getD_eq_getElem?_getD, List.getElem?_eq_getElem hlt]; rfl)
      obtain ⟨x, hx⟩ : ∃ x, b.getD i 0 = x := ⟨_, rfl⟩
      rw [hx] at c1
      obtain ⟨t, ht⟩ : ∃ t, cbody (4294967295 - s) (b.take i) = t := ⟨_, rfl⟩
      have htl : t < 4294967296 := by rw [← ht]; exact cbody_lt hcs
      rw [ht]
      have hnx : cbody (4294967295 - s) (b.take (i + 1)) = cone t x := by
        rw [List.take_add_one, List.getElem?_eq_getElem hlt]
        show cbody _ (_ ++ [_]) = _
        rw [cbody_snoc, ht, ← hx, List.getD_eq_getElem?_getD, List.getElem?_eq_getElem hlt]; rfl
      have HN := Lib.hid hnx
      obtain ⟨q, hq⟩ : ∃ q, t ^^^ x.toNat = q := ⟨_, rfl⟩
      have hxl : x.toNat < 4294967296 := Nat.lt_trans x.toNat_lt (by decide)
      have e1 : bits .xor .u32 (t : Int) ((x.toNat : Int) % 4294967296) = (q : Int) := by rw [Int.emod_eq_of_lt (by omega) (by omega), u32_xor_nat t x.toNat htl hxl, hq]
      have hql : q < 4294967296 := by rw [← hq]; exact xor32 htl hxl
      have HQ := Lib.hid hq
      clear ht hx hnx hq hxl
      go_wp2_with fail
      clear e1
      go_loop [0, 6] (fun v0 v20 => ∃ (k : Nat), k ≤ 8 ∧ v20 = .int .i64 (k : Nat) ∧ v0 = .int .u32 (csteps q k : Nat)) (fun _ v20 => (8 - intOf v20).toNat)
      case atStart => exact ⟨0, by omega, rfl, rfl⟩
      case round =>
        obtain ⟨k, hk, rfl, rfl⟩ := hrel
        by_cases hlk : k < 8
        · have hlk' : (k : Int) < 8 := by omega
          have hc := csteps_lt hql k
          have hnk : csteps q (k + 1) = cstep (csteps q k) := rfl
          obtain ⟨r, hr⟩ : ∃ r, csteps q k = r := ⟨_, rfl⟩
          rw [hr] at hc hnk ⊢
          have HK := Lib.hid hnk
          clear hnk hr
          by_cases hp : r % 2 = 1
          · have e2 : bits .and .u32 (r : Int) 1 = 1 := by rw [and_one32 r hc, hp]; rfl
            have E3 := Lib.hid (show (r : Int) / 2 = ((r / 2 : Nat) : Int) by omega)
            have E4 := Lib.hid (show bits .xor .u32 ((r / 2 : Nat) : Int) 2197175160 = ((r / 2 ^^^ 2197175160 : Nat) : Int) from u32_xor_nat (r / 2) 2197175160 (by omega) (by decide))
            have HK2 := Lib.hid (show csteps q (k + 1) = r / 2 ^^^ 2197175160 by rw [HK.out]; unfold cstep; rw [if_pos hp])
            clear hp
            go_wp2_with fail
            exact ⟨⟨k + 1, by omega, by go_num, by rw [E3.out, E4.out, HK2.out]⟩, by simp [intOf]; omega⟩
          · have e2 : bits .and .u32 (r : Int) 1 = 0 := by rw [and_one32 r hc, show r % 2 = 0 by omega]; rfl
            have E3 := Lib.hid (show (r : Int) / 2 = ((r / 2 : Nat) : Int) by omega)
            have HK2 := Lib.hid (show csteps q (k + 1) = r / 2 by rw [HK.out]; unfold cstep; rw [if_neg hp])
            clear hp
            go_wp2_with fail
            exact ⟨⟨k + 1, by omega, by go_num, by rw [E3.out, HK2.out]⟩, by simp [intOf]; omega⟩
        · obtain rfl : k = 8 := by omega
          have HN2 := Lib.hid (show csteps q 8 = cone t x by rw [← HQ.out, cone])
          clear hlk
          go_wp2_with fail
          exact ⟨⟨i + 1, by omega, by go_num, by rw [HN.out, HN2.out]⟩, by simp [intOf]; omega⟩
    · obtain rfl : i = b.length := by omega
      have e1 := compl32 _ (cbody_lt hcs (l := b))
      rw [List.take_length]
      clear hlt
      have HM := Lib.hid (show cmore s b = 4294967295 - cbody (4294967295 - s) b by rw [cmore])
      go_wp2_with fail
      go_ret
      exact ⟨by rw [HM.out]; rfl, rfl⟩
theorem rcrcsum_any (v : Value) (b : List UInt8) (hl : b.length ≤ maxLen) (w : World) (hb : Bytes w v b) :
    Calls Tryz.prog 100 #[v] w fun e w' => e = .returned (.int .u32 (csum b : Nat)) ∧ w = w' := by
  obtain ⟨a, c, rfl⟩ := hb.slice
  have HB := Lib.hid hb
  clear hb
  go_enter Tryz.func100, Tryz.ntmps100
  go_wp2_with fail
  refine (rcrcmore_any _ b hl 0 (by decide) _ HB.out).mono ?_; rintro e w1 ⟨rfl, rfl⟩
  go_wp2_with fail
  go_ret
  exact ⟨rfl, rfl⟩
/-- A number in so many bytes. -/
def lit (n : Nat) (k : Nat) : List UInt8 := (List.range k).map fun i => UInt8.ofNat (n / 2 ^ (8 * i))
theorem lit_succ (n k : Nat) : lit n (k + 1) = lit n k ++ [UInt8.ofNat (n / 2 ^ (8 * k))] := by unfold lit; rw [List.range_succ, List.map_append]; rfl
theorem lit_len (n k : Nat) : (lit n k).length = k := by unfold lit; simp
theorem lit4 (s : Nat) : lit s 4 = cbytes s := by
  unfold lit cbytes
  show [_, _, _, _] = _
  simp
theorem bv_ofNat (n : Nat) : bv (UInt8.ofNat n) = .int .u8 ((n % 256 : Nat) : Int) := by unfold bv; rw [UInt8.toNat_ofNat']
theorem rlittle_any (n k : Nat) (hn : n < 4294967296) (hk : k ≤ 4) (w0 w : World) (Y : Thing) (hL : Lab w0 w Y) :
    Calls Tryz.prog 126 #[.int .i64 n, .int .i64 k] w fun e w' => ∃ u, e = .returned u ∧ Lab w0 w' ((ownT 5 u (bvs (lit n k))).star Y) := by
  have L0 := Lib.hid (ownT.nil 5 hL)
  clear hL
  go_enter Tryz.func126, Tryz.ntmps126
  go_wp2_with fail
  go_loopw [5, 6] (fun v3 v9 wr => ∃ (i : Nat) (xa : Option Addr) (xc : Nat), i ≤ k ∧ v9 = .int .i64 (i : Nat) ∧ v3 = .slice xa i xc ∧ Hid (Lab w0 wr ((ownT 5 (.slice xa i xc) (bvs (lit n i))).star Y))) (fun _ v9 _ => (k - intOf v9).toNat)
  case atStart => exact ⟨0, none, 0, by omega, rfl, rfl, L0⟩
  case round =>
    obtain ⟨i, xa, xc, hi, rfl, rfl, HI⟩ := hrel
    by_cases hlt : i < k
    · have hlt' : (i : Int) < (k : Int) := by omega
      have HS := Lib.hid (show bvs (lit n i) ++ [.int .u8 ((n / 2 ^ (8 * i) % 256 : Nat) : Int)] = bvs (lit n (i + 1)) by rw [lit_succ]; unfold bvs; rw [List.map_append, ← bv_ofNat]; rfl)
      have HLE := Lib.hid (show i = (bvs (lit n i)).length ∧ (bvs (lit n i)).length ≤ 100000 by rw [bvs_len, lit_len]; exact ⟨rfl, by omega⟩)
      have E0 := Lib.hid (show ((n / 2 ^ (8 * 0) % 256 : Nat) : Int) = (n : Int) % 256 by simp)
      have E1 := Lib.hid (show ((n / 2 ^ (8 * 1) % 256 : Nat) : Int) = (n : Int) / 256 % 256 by simp)
      have E2 := Lib.hid (show ((n / 2 ^ (8 * 2) % 256 : Nat) : Int) = (n : Int) / 65536 % 256 by simp)
      have E3 := Lib.hid (show ((n / 2 ^ (8 * 3) % 256 : Nat) : Int) = (n : Int) / 16777216 % 256 by simp)
      have E3' := Lib.hid (show ((n / 2 ^ (8 * 3) % 256 : Nat) : Int) = (n : Int) / 16777216 by simp; omega)
      have hi4 : i = 0 ∨ i = 1 ∨ i = 2 ∨ i = 3 := by omega
      rcases hi4 with rfl | rfl | rfl | rfl
      all_goals
        go_wp2_with (at_builtin; refine list_of_wp rfl fun KK hKK => wp_lapp1 _ _ 24 5 (.int .u8 0) 1 rfl Tryz.underlying24 info_u8' rfl (by decide) rfl rfl rfl HLE.out.1 HI.out rfl HLE.out.2 fun ad c w7 hL => hKK _ _ ?_)
        first
          | exact ⟨⟨0 + 1, ad, c, by omega, rfl, rfl, Lib.hid (by rw [← HS.out, E0.out]; exact hL)⟩, by simp [intOf]; omega⟩
          | exact ⟨⟨1 + 1, ad, c, by omega, rfl, rfl, Lib.hid (by rw [← HS.out, E1.out]; exact hL)⟩, by simp [intOf]; omega⟩
          | exact ⟨⟨2 + 1, ad, c, by omega, rfl, rfl, Lib.hid (by rw [← HS.out, E2.out]; exact hL)⟩, by simp [intOf]; omega⟩
          | exact ⟨⟨3 + 1, ad, c, by omega, rfl, rfl, Lib.hid (by rw [← HS.out]; first | (rw [E3.out]; exact hL) | (rw [E3'.out]; exact hL))⟩, by simp [intOf]; omega⟩
    · obtain rfl : i = k := by omega
      clear hlt
      go_wp2_with fail
      go_ret
      exact ⟨_, rfl, HI.out⟩
theorem rcrcbytes_any (s : Nat) (hs : s < 4294967296) (w0 w : World) (Y : Thing) (hL : Lab w0 w Y) :
    Calls Tryz.prog 99 #[.int .u32 s] w fun e w' => ∃ u, e = .returned u ∧ Lab w0 w' ((ownT 5 u (bvs (cbytes s))).star Y) := by
  have L0 := Lib.hid hL
  clear hL
  go_enter Tryz.func99, Tryz.ntmps99
  go_wp2_with fail
  refine (rlittle_any s 4 hs (by omega) w0 _ Y L0.out).mono ?_; rintro e w1 ⟨u, rfl, hL⟩
  rw [lit4] at hL
  obtain ⟨ua, uc, rfl⟩ := Own.slice' (ownT.own hL.left)
  have L1 := Lib.hid hL
  clear hL
  go_wp2_with fail
  go_ret
  exact ⟨_, rfl, L1.out⟩
end Go.Proofs.YthkbbcdnmdjhdaaGreat
