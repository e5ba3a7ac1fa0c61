/-
  MatrixSystem.
-/
import Derived.Test.YtdmdcgcmappliaaMxM
import Derived.Test.YtdmdcgcmappliaaMxN
import Derived.Test.YtdmdcgcmappliaaMxS
import Derived.Test.YtdmdcgcmappliaaRsC
import Derived.Test.YtdmdcgcmappliaaRefE
import Derived.Deep.RegionHeld3
namespace Go.Proofs.Ytdmdcgcmappliaa
open Go.RowKit
set_option maxRecDepth 100000
set_option maxHeartbeats 4000000
attribute [local go_sem] min_int2 max_int2 bstr_toList

theorem pigeon : ∀ (N : Nat) (l : List Nat), (∀ f, f < N → f ∈ l) → N ≤ l.length
  | 0, _, _ => Nat.zero_le _
  | N + 1, l, h => by
    have hm := h N (by omega)
    have h1 := pigeon N (l.erase N) (fun f hf => (List.mem_erase_of_ne (by omega)).2 (h f (by omega)))
    have h2 := List.length_erase_of_mem hm
    have h3 := List.length_pos_of_mem hm
    omega
theorem a_free (N : Nat) (l : List Nat) (h : l.length < N) : ∃ f, f < N ∧ f ∉ l := by
  by_cases e : ∀ f, f < N → f ∈ l
  · have := pigeon N l e; omega
  · obtain ⟨f, hf⟩ := Classical.not_forall.1 e
    exact ⟨f, (Classical.not_imp.1 hf).1, (Classical.not_imp.1 hf).2⟩

theorem wp_cutv (slots : List Nat) (i : Nat) (v : Value) (R : World → Prop) {P : Program} {id : Nat} {ops : Array Oper} {b : Bool} {Q : Exit → Act → World → Prop} {L : List Value} {d : List Deferred} {w : World}
    (h1 : (Code.region id ops b).wp P (CutPost (L.set i v) slots d R) ⟨L.toArray, d⟩ w) (h2 : ∀ (u : Nat → Value) (w' : World), R w' → Q .normal ⟨(setAll (L.set i v) slots u).toArray, d⟩ w') : (Code.region id ops b).wp P Q ⟨L.toArray, d⟩ w :=
  Code.wp_mono (fun e a' w' h => by
    cases e with
    | normal => obtain ⟨hR, u, rfl⟩ := h; exact h2 u w' hR
    | _ => exact h.elim) h1
theorem has_any (v : Value) (l : List Nat) (x : Nat) (d : Bool) (hd : d = true ↔ x ∈ l) (hl : l.length ≤ 70000) (w : World) (hV : Ints w v (l.map Int.ofNat)) :
    Calls Try.prog 30 #[v, .int .i64 x] w fun e w' => e = .returned (.bool d) ∧ w = w' := by
  obtain ⟨la, lc, rfl, -, -, -⟩ := id hV
  rw [show (ivs (l.map Int.ofNat)).length = l.length by simp] at hV ⊢
  have HV := Lib.hid hV
  have HD := Lib.hid hd
  clear hV hd
  go_enter Try.func30, Try.ntmps30
  go_wp2_with fail
  go_loop [5] (fun v5 => ∃ i : Nat, i ≤ l.length ∧ v5 = .int .i64 i ∧ Hid (∀ j, j < i → l[j]? ≠ some x)) (fun v5 => (l.length - intOf v5).toNat)
  case atStart => exact ⟨0, by omega, rfl, Lib.hid fun j h => by omega⟩
  case round =>
    obtain ⟨i, hi, rfl, hJ⟩ := hrel
    by_cases hlt : i < l.length
    · have hlt' : (i : Int) < (l.length : Int) := by omega
      obtain ⟨b, o, rfl, c1⟩ := HV.out.at (j := i) (u := .int .i64 (l[i] : Nat)) (by simp [hlt])
      obtain ⟨y, hy⟩ : ∃ y, l[i] = y := ⟨_, rfl⟩
      rw [hy] at c1
      have HY := Lib.hid (show l[i]? = some y by rw [List.getElem?_eq_getElem hlt, hy])
      clear hy
      by_cases e : y = x
      · have q : ((y : Int) == (x : Int)) = true := by rw [e]; simp
        have hdt : d = true := HD.out.2 (by rw [← e]; exact List.mem_of_getElem? HY.out)
        subst hdt
        have E := Lib.hid e
        clear e
        go_wp2_with fail
        go_ret
        exact ⟨rfl, rfl⟩
      · have q : ((y : Int) == (x : Int)) = false := by simp; omega
        have E := Lib.hid e
        clear e
        go_wp2_with fail
        exact ⟨⟨i + 1, by omega, by go_num, Lib.hid fun j hj => by
          by_cases e : j = i
          · rw [e, HY.out]; exact fun h => E.out (Option.some.inj h)
          · exact hJ.out j (by omega)⟩, by simp [intOf]; omega⟩
    · have hdf : d = false := by
        cases d
        · rfl
        · obtain ⟨j, hj⟩ := List.getElem?_of_mem (HD.out.1 rfl)
          exact absurd hj (hJ.out j (by have := (List.getElem?_eq_some_iff.1 hj).1; omega))
      subst hdf
      clear hJ
      go_wp2_with fail
      go_ret
      exact ⟨rfl, rfl⟩
theorem next_gap (N f x : Nat) (hf : f < N) (hx : x < N) (h : x ≠ f) : (f + N - (x + 1) % N) % N < (f + N - x) % N := by
  by_cases e : x + 1 = N
  · rw [e, Nat.mod_self]
    have e1 : (f + N - 0) % N = f := by rw [Nat.sub_zero, Nat.add_mod_right]; exact Nat.mod_eq_of_lt hf
    have e2 : (f + N - x) % N = f + 1 := by rw [show f + N - x = f + 1 by omega]; exact Nat.mod_eq_of_lt (by omega)
    omega
  · rw [Nat.mod_eq_of_lt (show x + 1 < N by omega)]
    by_cases hx2 : x < f
    · rw [show f + N - x = (f - x) + N by omega, show f + N - (x + 1) = (f - (x + 1)) + N by omega, Nat.add_mod_right, Nat.add_mod_right, Nat.mod_eq_of_lt (by omega), Nat.mod_eq_of_lt (by omega)]
      omega
    · rw [Nat.mod_eq_of_lt (show f + N - x < N by omega), Nat.mod_eq_of_lt (show f + N - (x + 1) < N by omega)]
      omega

theorem system_any (w : World) (x y : UInt8) (pv : Value) (pl : List UInt8) (hP : Bytes w pv pl) (hpl : pl.length ≤ maxLen) :
    Calls Try.prog 7 #[bv x, bv y, pv] w fun e w' => e = .returned (.bool true) ∧ Ext w w' := by
  obtain ⟨n, hn⟩ : ∃ n : Nat, 1 + x.toNat % 12 = n := ⟨_, rfl⟩
  obtain ⟨p, hp⟩ : ∃ p : Nat, 1 + y.toNat % 12 = p := ⟨_, rfl⟩
  have f1 := Lib.hid (wrap_mod x 12 n (by omega) (by omega) hn)
  have f2 := Lib.hid (wrap_mod y 12 p (by omega) (by omega) hp)
  have n1 : 1 ≤ n := by omega
  have n2 : n ≤ 12 := by omega
  have k1 : 1 ≤ p := by omega
  have k2 : p ≤ 12 := by omega
  obtain ⟨pa, pc, rfl⟩ := Bytes.slice hP
  unfold maxLen at hpl
  have HP := Lib.hid hP
  clear hn hp hP
  go_enter Try.func7, Try.ntmps7
  go_wp2_with fail
  refine (mawake_any _).mono ?_; rintro e w1 ⟨rfl, x1⟩
  have X1 := Lib.hid x1
  clear x1
  go_wp2_with fail
  rw [show Go.RowKit.wrap64 (1 + (Go.RowKit.wrap64 (x.toNat : Int)).tmod 12) = (n : Int) from f1.out, show Go.RowKit.wrap64 (1 + (Go.RowKit.wrap64 (y.toNat : Int)).tmod 12) = (p : Int) from f2.out]
  clear f1 f2
  refine (sys_any n p n1 k1 (by omega) _).mono ?_; rintro e w2 ⟨X, g2, hX, rfl, hM, x2⟩
  obtain ⟨q, hq⟩ : ∃ q, n + p = q := ⟨_, rfl⟩
  have hqi : (n : Int) + (p : Int) = (q : Int) := by omega
  have XS := Mat.sys_sh hX
  rw [hq] at XS ⊢
  have HM2 := Lib.hid (hM.brows (n := q) (by rw [XS.1]))
  have X2 := Lib.hid (Ext.trans X1.out x2)
  have HX := Lib.hid hX
  have HXS := Lib.hid XS
  have HQ := Lib.hid hq
  have q1 : n < q := by omega
  have q2 : q ≤ 24 := by omega
  clear hX hM XS x2 hq
  go_wp2_with fail
  refine (rsys_any n p n1 k1 (by omega) _).mono ?_; rintro e w3 ⟨X', u3, hX', rfl, hU, x3⟩
  rw [HX.out] at hX'
  cases hX'
  have HM3 := Lib.hid (HM2.out.ext x3)
  have HU3 := Lib.hid hU.brows
  have X3 := Lib.hid (Ext.trans X2.out x3)
  clear x3 hU HM2
  go_wp2_with fail
  have HM3t := Lib.hid (HM3.out.take n (by omega))
  have XT := Lib.hid (Mat.sys_top HX.out)
  have sm : ∀ W, Ext w3 W → ∀ ua uc, .slice ua n uc = u3 → True := fun _ _ _ _ _ => trivial
  clear sm
  have same1 : ∀ W, Ext w3 W → Calls Try.prog 20 #[.slice (some ⟨g2, 0, none⟩) q q, u3] W fun e w' => e = .returned (.bool true) ∧ Ext w3 w' := fun W hW =>
    (rsame_eq2 _ _ X (by rw [HXS.out.1]; unfold maxLen; omega) _ (HM3.out.ext hW) (HU3.out.ext hW)).mono fun e w' h => ⟨h.1, Ext.trans hW h.2⟩
  have unit1 : ∀ W, Ext w3 W → Calls Try.prog 22 #[.int .i64 n] W fun e w' => ∃ u, e = .returned u ∧ Hid (BRows w' u (Mat.unit n)) ∧ Ext w3 w' := fun W hW =>
    (runitA_any n n1 (by omega) _).mono fun e w' ⟨u, h1, h2, h3⟩ => ⟨u, h1, Lib.hid h2.brows, Ext.trans hW h3⟩
  have same2 : ∀ W u, Ext w3 W → Hid (BRows W u (Mat.unit n)) → Calls Try.prog 20 #[.slice (some ⟨g2, 0, none⟩) n q, u] W fun e w' => e = .returned (.bool true) ∧ Ext w3 w' := fun W u hW hu =>
    (rsame_eq2 _ _ (Mat.unit n) (by rw [(Mat.unit_sh n).1]; unfold maxLen; omega) _ (by rw [← XT.out]; exact HM3t.out.ext hW) hu.out).mono fun e w' h => ⟨h.1, Ext.trans hW h.2⟩
  have S1 := Lib.hid same1
  have U1 := Lib.hid unit1
  have S2 := Lib.hid same2
  clear same1 unit1 same2
  have x0 : Ext w3 w3.drew := Ext.of_drawn _ 1
  have b1 : (0 : Int) ≤ (n : Int) := by omega
  have b2 : (n : Int) ≤ (q : Int) := by omega
  have b3 : n ≤ q := by omega
  go_region_held3 (fun _ : World => True) (trivial) (first | (go_at_call 22; refine (U1.out _ (by assumption)).mono ?_; rintro e w5 ⟨u5, rfl, hu5, hx5⟩) | (go_at_call 20; ((with_reducible refine (S1.out _ x0).mono ?_); rintro e w4 ⟨rfl, hx4⟩)) | (go_at_call 20; ((with_reducible refine (S2.out _ _ (by assumption) (by assumption)).mono ?_); rintro e w6 ⟨rfl, hx6⟩)))
  all_goals
    have X4 := Lib.hid (Ext.trans X3.out hx6)
    have HM4 := Lib.hid (HM3.out.ext hx6)
    clear hx4 hx5 hu5 S1 U1 S2 x0
    rename World => w6
    go_wp2_with fail
    go_loopw [13, 14] (fun v13 v14 wr => ∃ (i : Nat) (L : List Nat) (xa : Option Addr) (xc : Nat), i ≤ n ∧ v14 = .int .i64 (i : Nat) ∧ v13 = .slice xa i xc ∧ Hid (Own wr w6.heap.size 3 (.slice xa i xc) (ivs (L.map Int.ofNat)) ∧ L.length = i ∧ L.Nodup ∧ ∀ z ∈ L, z < q) ∧ Ext w6 wr) (fun _ v14 _ => (n - intOf v14).toNat)
    case atStart => exact ⟨0, [], _, _, by omega, rfl, rfl, Lib.hid ⟨Own.nil _ _ _, rfl, List.nodup_nil, by simp⟩, Ext.refl _⟩
    case round =>
      obtain ⟨i, L, xa, xc, hi, rfl, rfl, hR, hE⟩ := hrel
      by_cases hlt : i < n
      · have hlt' : (i : Int) < (n : Int) := by omega
        have hlq : (i : Int) < (q : Int) := by omega
        have HI : Hid (Ints wr (.slice xa i xc) (L.map Int.ofNat)) := Lib.hid (by
          have := hR.out.1.cells
          exact this)
        obtain ⟨f, hf, hfl⟩ := a_free q L (by have := hR.out.2.1; omega)
        have HF := Lib.hid hfl
        clear hfl
        have tail : ∀ s0 : Nat, s0 < q → True := fun _ _ => trivial
        clear tail
        by_cases hip : i < pl.length
        · have hip' : (i : Int) < (pl.length : Int) := by omega
          obtain ⟨pb, po, rfl, c1⟩ := (HP.out.ext (Ext.trans X4.out hE)).at (bvs_get hip)
          obtain ⟨z, hz⟩ : ∃ z, pl[i] = z := ⟨_, rfl⟩
          rw [hz] at c1
          have ez : (Go.RowKit.wrap64 (z.toNat : Int)).tmod (q : Int) = ((z.toNat % q : Nat) : Int) := by
            have := z.toNat_lt
            rw [show Go.RowKit.wrap64 (z.toNat : Int) = (z.toNat : Int) from by unfold Go.RowKit.wrap64; omega]
            exact (Int.ofNat_tmod _ _).symm
          have hzq : z.toNat % q < q := Nat.mod_lt _ (by omega)
          obtain ⟨s0, hs0⟩ : ∃ s0, z.toNat % q = s0 := ⟨_, rfl⟩
          rw [hs0] at ez hzq
          have EZ := Lib.hid ez
          clear hz ez hs0
          go_wp2_with fail
          rw [EZ.out]
          go_loopw [15] (fun v15 wi => ∃ s : Nat, s < q ∧ v15 = .int .i64 (s : Nat) ∧ wi = wr) (fun v15 _ => (f + q - (intOf v15).toNat) % q)
          case atStart => exact ⟨s0, hzq, rfl, rfl⟩
          case round =>
            obtain ⟨s, hs, rfl, rfl⟩ := hrel
            by_cases hm : s ∈ L
            · have HM := Lib.hid hm
              have hne : s ≠ f := fun e => HF.out (e ▸ hm)
              have hg := next_gap q f s hf hs hne
              have HG := Lib.hid hg
              have em : ((s : Int) + 1) % (q : Int) = (((s + 1) % q : Nat) : Int) := by norm_cast
              have hsl := Nat.mod_lt (s + 1) (show 0 < q by omega)
              obtain ⟨s1, hs1⟩ : ∃ s1, (s + 1) % q = s1 := ⟨_, rfl⟩
              rw [hs1] at em HG hsl
              have EM := Lib.hid em
              clear hm hne hg em hs1 c1
              go_wp2_with fail
              refine (has_any _ L s true ⟨fun _ => HM.out, fun _ => rfl⟩ (by have := hR.out.2.1; omega) _ HI.out).mono ?_; rintro e w' ⟨rfl, rfl⟩
              go_wp2_with fail
              rw [EM.out]
              exact ⟨⟨s1, hsl, rfl, trivial⟩, by simp only [intOf, Int.toNat_natCast]; exact HG.out⟩
            · have HM := Lib.hid hm
              have hN1 : (L ++ [s]).Nodup := List.nodup_append.2 ⟨hR.out.2.2.1, by simp, fun a ha b hb => by rw [List.mem_singleton.1 hb]; exact fun e => hm (e ▸ ha)⟩
              have hN2 : ∀ z ∈ L ++ [s], z < q := fun z hz => by
                rcases List.mem_append.1 hz with h | h
                · exact hR.out.2.2.2 z h
                · rw [List.mem_singleton.1 h]; exact hs
              have HN := Lib.hid (And.intro hN1 hN2)
              clear hm hN1 hN2 c1
              go_wp2_with fail
              refine (has_any _ L s false ⟨fun h => Bool.noConfusion h, fun h => absurd h HM.out⟩ (by have := hR.out.2.1; omega) _ HI.out).mono ?_; rintro e w' ⟨rfl, rfl⟩
              go_wp2_with (at_builtin; refine list_of_wp rfl fun K hK => wp_int1 _ _ rfl rfl rfl rfl hR.out.1 hE.size (by have := hR.out.2.1; omega) fun ad c w7 hO hB7 => hK _ _ ?_)
              have HR2 := Lib.hid (And.intro hO (And.intro (show (L ++ [s]).length = i + 1 by rw [List.length_append, hR.out.2.1]; rfl) HN.out))
              have hE7 := Below.trans hE hB7
              clear hO hB7
              go_wp2_with fail
              exact ⟨⟨i + 1, L ++ [s], ad, c, by omega, by go_num, rfl, HR2, hE7⟩, by simp [intOf]; omega⟩
        · go_wp2_with fail
          go_loopw [15] (fun v15 wi => ∃ s : Nat, s < q ∧ v15 = .int .i64 (s : Nat) ∧ wi = wr) (fun v15 _ => (f + q - (intOf v15).toNat) % q)
          case atStart => exact ⟨i, by omega, rfl, rfl⟩
          case round =>
            obtain ⟨s, hs, rfl, rfl⟩ := hrel
            by_cases hm : s ∈ L
            · have HM := Lib.hid hm
              have hne : s ≠ f := fun e => HF.out (e ▸ hm)
              have hg := next_gap q f s hf hs hne
              have HG := Lib.hid hg
              have em : ((s : Int) + 1) % (q : Int) = (((s + 1) % q : Nat) : Int) := by norm_cast
              have hsl := Nat.mod_lt (s + 1) (show 0 < q by omega)
              obtain ⟨s1, hs1⟩ : ∃ s1, (s + 1) % q = s1 := ⟨_, rfl⟩
              rw [hs1] at em HG hsl
              have EM := Lib.hid em
              clear hm hne hg em hs1
              go_wp2_with fail
              refine (has_any _ L s true ⟨fun _ => HM.out, fun _ => rfl⟩ (by have := hR.out.2.1; omega) _ HI.out).mono ?_; rintro e w' ⟨rfl, rfl⟩
              go_wp2_with fail
              rw [EM.out]
              exact ⟨⟨s1, hsl, rfl, trivial⟩, by simp only [intOf, Int.toNat_natCast]; exact HG.out⟩
            · have HM := Lib.hid hm
              have hN1 : (L ++ [s]).Nodup := List.nodup_append.2 ⟨hR.out.2.2.1, by simp, fun a ha b hb => by rw [List.mem_singleton.1 hb]; exact fun e => hm (e ▸ ha)⟩
              have hN2 : ∀ z ∈ L ++ [s], z < q := fun z hz => by
                rcases List.mem_append.1 hz with h | h
                · exact hR.out.2.2.2 z h
                · rw [List.mem_singleton.1 h]; exact hs
              have HN := Lib.hid (And.intro hN1 hN2)
              clear hm hN1 hN2
              go_wp2_with fail
              refine (has_any _ L s false ⟨fun h => Bool.noConfusion h, fun h => absurd h HM.out⟩ (by have := hR.out.2.1; omega) _ HI.out).mono ?_; rintro e w' ⟨rfl, rfl⟩
              go_wp2_with (at_builtin; refine list_of_wp rfl fun K hK => wp_int1 _ _ rfl rfl rfl rfl hR.out.1 hE.size (by have := hR.out.2.1; omega) fun ad c w7 hO hB7 => hK _ _ ?_)
              have HR2 := Lib.hid (And.intro hO (And.intro (show (L ++ [s]).length = i + 1 by rw [List.length_append, hR.out.2.1]; rfl) HN.out))
              have hE7 := Below.trans hE hB7
              clear hO hB7
              go_wp2_with fail
              exact ⟨⟨i + 1, L ++ [s], ad, c, by omega, by go_num, rfl, HR2, hE7⟩, by simp [intOf]; omega⟩
      · obtain rfl : i = n := by omega
        have HI : Hid (Ints wr (.slice xa L.length xc) (L.map Int.ofNat)) := Lib.hid (by
          have := hR.out.1.cells
          rw [hR.out.2.1]
          exact this)
        have hil : L.length = i := hR.out.2.1
        have HM5 := Lib.hid (HM4.out.ext hE)
        have X5 := Lib.hid (Ext.trans X4.out hE)
        rw [← hil]
        have GX : Mat.Good X := ⟨q, i, by omega, by omega, n1, by omega, HXS.out⟩
        have hpk := Mat.sys_pick (by omega) HX.out L (fun z hz => by rw [HQ.out]; exact hR.out.2.2.2 z hz) hil hR.out.2.2.1
        obtain ⟨Z, hZ⟩ := hpk
        have ps := Mat.pick_sh HXS.out (l := L) (fun z hz => hR.out.2.2.2 z hz)
        rw [hil] at ps
        have W := Lib.hid (And.intro GX (And.intro hZ (And.intro ps hil)))
        have hlq : (L.length : Int) < (q : Int) := by omega
        clear GX hZ ps hil hlt hE
        go_wp2_with fail
        refine (rows_any _ _ X L W.out.1 (by rw [W.out.2.2.2]; exact n1) (by rw [W.out.2.2.2]; omega) (fun z hz => by rw [HXS.out.1]; exact hR.out.2.2.2 z hz) _ HM5.out HI.out).mono ?_; rintro e w7 ⟨u, rfl, hP, x7⟩
        have HP7 := Lib.hid hP
        have X7 := Lib.hid (Ext.trans X5.out x7)
        clear hP x7
        go_wp2_with fail
        refine (invert_any _ (Mat.pick X L) i ⟨n1, by omega⟩ W.out.2.2.1 _ HP7.out).mono ?_
        rintro e w8 (⟨hn, -, -⟩ | ⟨z', g8, hz', rfl, hZ', x8⟩)
        · rw [W.out.2.1] at hn; cases hn
        · have X8 := Lib.hid (Ext.trans X7.out x8)
          clear x8 hZ' hz'
          go_wp2_with fail
          go_ret
          exact ⟨rfl, X8.out⟩
end Go.Proofs.Ytdmdcgcmappliaa
