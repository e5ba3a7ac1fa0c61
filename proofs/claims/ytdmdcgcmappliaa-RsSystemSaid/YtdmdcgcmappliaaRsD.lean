/-
  rs: the data of k shards.
-/
import Derived.Test.YtdmdcgcmappliaaRsC
namespace Go.Proofs.Ytdmdcgcmappliaa
open Go.RowKit Gf
set_option maxRecDepth 100000
set_option maxHeartbeats 4000000
attribute [local go_sem] min_int2 max_int2

/-- A row that was there ahead of the list. -/
theorem OffB.old {w : World} {u : Value} {l : List UInt8} {r : Option Nat} (h : Bytes w u l) (hr : ∀ q, r = some q → w.heap.size ≤ q) : OffB r u l := by
  by_cases h0 : l = []
  · exact .inl h0
  · obtain ⟨b, o, n, c, rfl, hb⟩ := h.head h0
    refine .inr (.inr fun e => ?_)
    have := hr b e.symm
    omega
theorem RowsOwn.from {w : World} {B : Nat} {v : Value} {ls : List (List UInt8)} (h : RowsOwn w B v ls) : ∀ q, v.ownBlock = some q → B ≤ q := by
  obtain ⟨vs, h1, _⟩ := h
  exact fun q hq => h1.block q hq

theorem data_any (cb k nn : Nat) (X Z : Mat.M) (vs vl : Value) (S : Mat.M) (L : List Nat) (n : Nat) (hn : n ≤ 70000) (hX : CodeMat X k nn) (hS : S.length = nn) (hLk : L.length = k) (hL : ∀ i ∈ L, i < nn) (hSn : ∀ i ∈ L, (S.getD i []).length = n) (hZ : Mat.minv k (Mat.pick X L) = some Z) (w : World) (h : CodeAt w cb k nn X) (hV : BRows w vs S) (hI : Ints w vl (L.map Int.ofNat)) :
    Calls Try.prog 62 #[.pointer (some ⟨cb, 0, none⟩), vs, vl, .int .i64 n] w fun e w' => ∃ u, e = .returned (.tuple #[u, .bool true]) ∧ RowsOwn w' w.heap.size u (Mat.mmul Z (Mat.pick S L) n) ∧ Ext w w' := by
  obtain ⟨va, vc, rfl⟩ := hV.form
  obtain ⟨la, lc, rfl, -, -, -⟩ := id hI
  rw [show (ivs (L.map Int.ofNat)).length = k by simp [hLk]] at hI ⊢
  have k1 := hX.k1
  have kn := hX.kn
  have n2 := hX.n255
  rw [hS] at hV ⊢
  have HX := Lib.hid hX
  have HC := Lib.hid h
  have HV := Lib.hid hV
  have HI := Lib.hid hI
  have HL := Lib.hid (And.intro hLk (And.intro hL (And.intro hSn (And.intro hZ hS))))
  obtain ⟨xg, t, -, -, c2, -, hXr, -⟩ := h.cells
  have HXR := Lib.hid hXr
  have PS := Lib.hid (Mat.pick_sh hX.sh hL)
  have GX := Lib.hid (show Mat.Good X from ⟨nn, k, by omega, n2, k1, by omega, hX.sh⟩)
  clear h hV hX hI hXr hLk hL hSn hZ hS
  go_enter Try.func62, Try.ntmps62
  go_wp2_with fail
  refine (rows_any _ _ X L GX.out (by rw [HL.out.1]; exact k1) (by rw [HL.out.1]; omega) (fun i hi => by rw [HX.out.sh.1]; exact HL.out.2.1 i hi) _ HXR.out (by exact HI.out)).mono ?_; rintro e w1 ⟨p, rfl, hP, x1⟩
  have HP := Lib.hid hP
  have X1 := Lib.hid x1
  clear hP x1 c2
  go_wp2_with fail
  have PSk := PS.out
  rw [HL.out.1] at PSk
  refine (invert_any _ (Mat.pick X L) k ⟨k1, by omega⟩ PSk _ HP.out).mono ?_
  rintro e w2 (⟨hn', -, -⟩ | ⟨Z', g, hZ', rfl, hM, x2⟩)
  · rw [HL.out.2.2.2.1] at hn'; cases hn'
  obtain rfl : Z' = Z := by rw [HL.out.2.2.2.1] at hZ'; exact (Option.some.inj hZ').symm
  have SZ := (Mat.minv_spec PSk hZ').1
  have HZ := Lib.hid (hM.brows (n := k) (by rw [SZ.1]))
  have SZh := Lib.hid SZ
  have X2 := Lib.hid (Ext.trans X1.out x2)
  clear hM x2 hZ' SZ PSk HP
  go_wp2_with fail
  go_loopw [13, 39] (fun v13 v39 wr => ∃ (i : Nat) (xa : Option Addr) (xc : Nat), i ≤ k ∧ v39 = .int .i64 (i : Nat) ∧ v13 = .slice xa i xc ∧ Hid (RowsOwn wr w2.heap.size (.slice xa i xc) (Mat.pick S (L.take i)) ∧ Ext w2 wr ∧ Ext w wr)) (fun _ v39 _ => (k - intOf v39).toNat)
  case atStart => exact ⟨0, _, _, by omega, rfl, rfl, Lib.hid ⟨RowsOwn.nil _ _, Ext.refl _, X2.out⟩⟩
  case round =>
    obtain ⟨i, xa, xc, hi, rfl, rfl, hR⟩ := hrel
    by_cases hlt : i < k
    · have hlt' : (i : Int) < (k : Int) := by omega
      obtain ⟨z, hz⟩ : ∃ z, L[i]? = some z := ⟨_, List.getElem?_eq_getElem (by rw [HL.out.1]; exact hlt)⟩
      have hzm := List.mem_of_getElem? hz
      have hzn := HL.out.2.1 z hzm
      have hzl := HL.out.2.2.1 z hzm
      have hzc : (ivs (L.map Int.ofNat))[i]? = some (.int .i64 (z : Int)) := by simp [hz]
      obtain ⟨lb, lo, rfl, c0⟩ := (HI.out.ext hR.out.2.2).at hzc
      have hSz : S[z]? = some (S.getD z []) := by rw [List.getElem?_eq_getElem (by rw [HL.out.2.2.2.2]; exact hzn), Mat.getD_lt]
      obtain ⟨sb, so, sa, sc, rfl, c1w, hbw⟩ := HV.out.at hSz
      have c1 := Ext.cell hR.out.2.2 c1w
      rw [hzl] at c1 hbw
      obtain ⟨row, hrow⟩ : ∃ row, S.getD z [] = row := ⟨_, rfl⟩
      rw [hrow] at hbw
      have HP : Hid (Mat.pick S (L.take i) ++ [row] = Mat.pick S (L.take (i + 1))) := Lib.hid (by
        unfold Mat.pick
        rw [List.take_add_one, hz, ← hrow]
        simp)
      have HLn : Hid ((Mat.pick S (L.take i)).length ≤ 70000) := Lib.hid (by unfold Mat.pick; simp; omega)
      have W := Lib.hid (And.intro (hbw.ext hR.out.2.2) (OffB.old (r := (Value.slice xa i xc).ownBlock) hbw (fun q hq => Nat.le_trans X2.out.size (hR.out.1.from q hq))))
      have q1 : (z : Int) < (nn : Int) := by omega
      have q3 : 0 ≤ (z : Int) := by omega
      clear hz hzm hzn hzl hzc hSz c1w hbw hrow
      go_wp2_with (at_builtin; refine list_of_wp rfl fun K hK => wp_row1 _ _ 22 rfl Try.underlying22 rfl rfl rfl hR.out.1 W.out.1 W.out.2 hR.out.2.1.size HLn.out fun ad c w7 hN hB7 => hK _ _ ?_)
      rw [HP.out] at hN
      have HN := Lib.hid (And.intro hN (And.intro (Below.trans hR.out.2.1 hB7) (Below.trans hR.out.2.2 (Below.mono hB7 X2.out.size))))
      clear hN hB7
      go_wp2_with fail
      exact ⟨⟨i + 1, _, _, by omega, by go_num, rfl, HN⟩, by simp [intOf]; omega⟩
    · obtain rfl : i = k := by omega
      have hN := hR.out.1.brows
      rw [← HL.out.1, List.take_length, HL.out.1] at hN
      have HH := Lib.hid hN
      have HZ1 := Lib.hid (HZ.out.ext hR.out.2.1)
      have X3 := Lib.hid hR.out.2.2
      clear hlt hN
      go_wp2_with fail
      obtain ⟨E, hE⟩ : ∃ E, Mat.mmul Z' (Mat.pick S L) n = E := ⟨_, rfl⟩
      have HE := Lib.hid hE
      have PSS : Hid ((Mat.pick S L).length = i ∧ ∀ x ∈ Mat.pick S L, x.length = n) := Lib.hid ⟨by unfold Mat.pick; rw [List.length_map, HL.out.1], fun x hx => by
        unfold Mat.pick at hx
        obtain ⟨z, hz, rfl⟩ := List.mem_map.1 hx
        exact HL.out.2.2.1 z hz⟩
      clear hE
      go_loopw [14, 53] (fun v14 v53 wr2 => ∃ (j : Nat) (ya : Option Addr) (yc : Nat), j ≤ i ∧ v53 = .int .i64 (j : Nat) ∧ v14 = .slice ya j yc ∧ Hid (RowsOwn wr2 wr.heap.size (.slice ya j yc) (E.take j)) ∧ Ext wr wr2) (fun _ v53 _ => (i - intOf v53).toNat)
      case atStart => exact ⟨0, _, _, by omega, rfl, rfl, Lib.hid (RowsOwn.nil _ _), Ext.refl _⟩
      case round =>
        obtain ⟨j, ya, yc, hj, rfl, rfl, hR2, hB2⟩ := hrel
        rename World => wr2
        by_cases hlt2 : j < i
        · have hlt2' : (j : Int) < (i : Int) := by omega
          obtain ⟨g1, g2⟩ := SZh.out.get hlt2
          obtain ⟨ra, rc, d1, hb⟩ := (HZ1.out.ext hB2).rowAt g1
          rw [Nat.zero_add, g2] at d1
          rw [g2] at hb
          obtain ⟨by', hby⟩ : ∃ by', Z'.getD j [] = by' := ⟨_, rfl⟩
          rw [hby] at hb g1 g2
          have HP : Hid (E.take j ++ [Mat.rowk by' (Mat.pick S L) n by'.length] = E.take (j + 1)) := Lib.hid (by
            rw [List.take_add_one, ← HE.out]
            have : (Mat.mmul Z' (Mat.pick S L) n)[j]? = some (Mat.rowk by' (Mat.pick S L) n by'.length) := by
              unfold Mat.mmul
              rw [List.getElem?_map, g1, g2, PSS.out.1]
              rfl
            rw [this]
            rfl)
          have HLn : Hid ((E.take j).length ≤ 70000) := Lib.hid (by simp; omega)
          have HB := Lib.hid hb
          have G2 := Lib.hid g2
          clear hb hby g1 g2
          go_wp2_with fail
          refine (row_any cb i nn X _ _ by' (Mat.pick S L) n hn (by rw [G2.out, PSS.out.1]; exact Nat.le_refl _) (by rw [PSS.out.1]; omega) (fun x hx => by rw [PSS.out.2 x hx]; exact hn) _ (HC.out.ext (Ext.trans X3.out hB2)) HB.out (HH.out.ext hB2)).mono ?_; rintro e w5 ⟨ua, uc, rfl, hU, x5⟩
          have W := Lib.hid (And.intro hU (And.intro (hR2.out.ext x5) (OffB.fresh (r := (Value.slice ya j yc).ownBlock) hU (fun q hq => hR2.out.block q hq))))
          have X5 := Lib.hid x5
          clear hU x5 d1
          go_wp2_with (at_builtin; refine list_of_wp rfl fun K hK => wp_row1 _ _ 22 rfl Try.underlying22 rfl rfl rfl W.out.2.1 W.out.1.cells W.out.2.2 (Nat.le_trans hB2.size X5.out.size) HLn.out fun ad c w7 hN hB7 => hK _ _ ?_)
          rw [HP.out] at hN
          have HN := Lib.hid hN
          have hB8 := Lib.hid (Below.trans (Below.trans hB2 (Below.mono X5.out hB2.size)) hB7)
          clear hN hB7
          go_wp2_with fail
          exact ⟨⟨j + 1, _, _, by omega, by go_num, rfl, HN, hB8.out⟩, by simp [intOf]; omega⟩
        · obtain rfl : j = i := by omega
          have hN := hR2.out.mono X3.out.size
          rw [show E.take j = E from List.take_of_length_le (by rw [← HE.out, (Mat.mmul_sh (b := Mat.pick S L) (m := n) SZh.out).1]; exact Nat.le_refl _)] at hN
          have HN := Lib.hid hN
          have HF := Lib.hid (Ext.trans X3.out hB2)
          clear hN hlt2
          go_wp2_with fail
          go_ret2
          exact ⟨_, rfl, HE.out ▸ HN.out, HF.out⟩
end Go.Proofs.Ytdmdcgcmappliaa
