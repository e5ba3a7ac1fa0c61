/-
  A list of rows that grows by append: the list's block is the call's own, the rows lie elsewhere. No statement about the program.
  append of one row: the law for a walk.
  Whether two matrices are the same: matrix.Same, the reference's Same.
  matrix.Rows.
  The reference's Vandermonde.
  The reference's Copy and Unit.
  A list of rows that grows by append, the rows the call's own and no two in one block: what may be written in place, and swapped. No statement about the program.
  The reference's Copy and Unit: their rows lie apart.
-/
import Derived.Test.YthkbbcdnmdjhdaaGreatA3
import Derived.Test.YthkbbcdnmdjhdaaGreatA1
import Derived.Deep.QuietTactic
import Derived.BigQuiet
/-! XRowsOwn: A list of rows that grows by append: the list's block is the call's own, the rows lie elsewhere. No statement about the program. -/
namespace Go.Proofs.YthkbbcdnmdjhdaaGreat
open Go.RowKit
set_option maxRecDepth 100000
set_option maxHeartbeats 1000000

/-- A row that has something does not lie in this block. -/
def OffB (r : Option Nat) (u : Value) (l : List UInt8) : Prop := l = [] ∨ u.ownBlock = none ∨ u.ownBlock ≠ r
def RowsOwn (w : World) (B : Nat) (v : Value) (ls : List (List UInt8)) : Prop :=
  ∃ vs : List Value, Own w B 24 v vs ∧ vs.length = ls.length ∧ ∀ (i : Nat) (u : Value) (l : List UInt8), vs[i]? = some u → ls[i]? = some l → Bytes w u l ∧ OffB v.ownBlock u l
theorem RowsOwn.nil (w : World) (B : Nat) : RowsOwn w B (.slice none 0 0) [] := ⟨[], Own.nil _ _ _, rfl, by simp⟩
theorem RowsOwn.ext {w w' : World} {B : Nat} {v : Value} {ls : List (List UInt8)} (h : RowsOwn w B v ls) (hx : Ext w w') : RowsOwn w' B v ls := by
  obtain ⟨vs, h1, h2, h3⟩ := h
  exact ⟨vs, h1.ext hx, h2, fun i u l hu hl => ⟨(h3 i u l hu hl).1.ext hx, (h3 i u l hu hl).2⟩⟩
theorem RowsOwn.brows {w : World} {B : Nat} {v : Value} {ls : List (List UInt8)} (h : RowsOwn w B v ls) : BRows w v ls := by
  obtain ⟨vs, h1, h2, h3⟩ := h
  exact ⟨vs, h1.cells, h2, fun i u l hu hl => (h3 i u l hu hl).1⟩
theorem RowsOwn.mono {w : World} {B B' : Nat} {v : Value} {ls : List (List UInt8)} (h : RowsOwn w B v ls) (hB : B' ≤ B) : RowsOwn w B' v ls := by
  obtain ⟨vs, h1, h2, h3⟩ := h
  exact ⟨vs, h1.mono hB, h2, h3⟩
theorem RowsOwn.form {w : World} {B : Nat} {v : Value} {ls : List (List UInt8)} (h : RowsOwn w B v ls) : ∃ a c, v = .slice a ls.length c := by
  obtain ⟨vs, h1, h2, h3⟩ := h
  obtain ⟨a, c, e⟩ := h1.slice
  exact ⟨a, c, by rw [e, h2]⟩
theorem RowsOwn.block {w : World} {B : Nat} {v : Value} {ls : List (List UInt8)} (h : RowsOwn w B v ls) : ∀ r, v.ownBlock = some r → r < w.heap.size := by
  obtain ⟨vs, h1, h2, h3⟩ := h
  intro r hr
  exact (World.ownsRow.lt h1 r hr).2

theorem Bytes.head {w : World} {u : Value} {l : List UInt8} (h : Bytes w u l) (h0 : l ≠ []) : ∃ b o n c, u = .slice (some ⟨b, o, none⟩) n c ∧ b < w.heap.size := by
  obtain ⟨a, cap, e, h1, h2, h3⟩ := h
  have hl : 0 < l.length := List.length_pos_iff.2 h0
  obtain ⟨ad, e1, e2⟩ := h3 0 _ (bvs_get hl)
  have hp := addr_plain e2
  have hlt := World.block_lt_of_cell? w _ e2
  subst e1
  rcases ad with ⟨b, o, f⟩
  have hf : f = none := by
    have := congrArg Addr.spot hp
    simpa [Addr.add] using this
  subst hf
  exact ⟨b, o, _, _, e, hlt⟩
/-- Bytes that do not lie in the row that grows. -/
theorem Bytes.grown {w w' : World} {u : Value} {l : List UInt8} {r : Option Nat} (h : Bytes w u l) (hg : w.grownBy w' r) (hof : OffB r u l) : Bytes w' u l := by
  obtain ⟨a, cap, e, h1, h2, h3⟩ := id h
  refine ⟨a, cap, e, h1, h2, fun j x hx => ?_⟩
  obtain ⟨ad, e1, e2⟩ := h3 j x hx
  refine ⟨ad, e1, ?_⟩
  have hb := World.block_lt_of_cell? w _ e2
  have hbk : (ad.add j).block = ad.block := by unfold Addr.add; split <;> rfl
  have hblk : w'.heap[(ad.add j).block]? = w.heap[(ad.add j).block]? := hg.block _ hb (fun e3 => by
    rcases hof with rfl | hn | hn
    · simp at hx
    · rw [e, e1] at hn; simp [Value.ownBlock] at hn
    · rw [e, e1] at hn
      exact hn (by show some ad.block = r; rw [← hbk, e3]))
  unfold World.cell? at e2 ⊢
  rw [hblk]
  exact e2
/-- One row more. -/
theorem RowsOwn.app {w w' : World} {B : Nat} {v v' u : Value} {vs : List Value} {ls : List (List UInt8)} {l : List UInt8} (hl : vs.length = ls.length)
    (hr : ∀ (i : Nat) (u : Value) (l : List UInt8), vs[i]? = some u → ls[i]? = some l → Bytes w u l ∧ OffB v.ownBlock u l) (hu : Bytes w u l) (ho : OffB v.ownBlock u l) (ha : AppOut w B 24 v (vs ++ [u]) v' w') : RowsOwn w' B v' (ls ++ [l]) := by
  obtain ⟨o1, o2, o3⟩ := ha
  refine ⟨vs ++ [u], o1, by simp [hl], fun i x k hx hk => ?_⟩
  have key : Bytes w x k ∧ OffB v.ownBlock x k := by
    by_cases hi : i < vs.length
    · rw [List.getElem?_append_left hi] at hx
      rw [List.getElem?_append_left (by omega)] at hk
      exact hr i x k hx hk
    · have hlt := (List.getElem?_eq_some_iff.1 hx).1
      simp at hlt
      obtain rfl : i = vs.length := by omega
      rw [List.getElem?_append_right (Nat.le_refl _), Nat.sub_self] at hx
      rw [hl, List.getElem?_append_right (Nat.le_refl _), Nat.sub_self] at hk
      simp at hx hk
      subst hx hk
      exact ⟨hu, ho⟩
  refine ⟨key.1.grown o2 key.2, ?_⟩
  rcases o3 with o3 | ⟨q, o3, hq⟩
  · rw [o3]; exact key.2
  · by_cases hk0 : k = []
    · exact .inl hk0
    · obtain ⟨b, o, n, c, rfl, hb⟩ := key.1.head hk0
      refine .inr (.inr ?_)
      rw [o3]
      intro e
      have : b = q := by simpa [Value.ownBlock] using e
      omega
/-- A row made behind the list. -/
theorem OffB.fresh {w : World} {B : Nat} {u : Value} {l : List UInt8} {r : Option Nat} (h : Own w B 5 u (bvs l)) (hr : ∀ q, r = some q → q < B) : OffB r u l := by
  cases e : u.ownBlock with
  | none => exact .inr (.inl e)
  | some b =>
    refine .inr (.inr fun h2 => ?_)
    have := h.block b e
    rw [e] at h2
    have := hr b h2.symm
    omega
end Go.Proofs.YthkbbcdnmdjhdaaGreat
/-! XRowApp: append of one row: the law for a walk. -/
namespace Go.Proofs.YthkbbcdnmdjhdaaGreat
open Go.RowKit
set_option maxRecDepth 100000
set_option maxHeartbeats 1000000

theorem one_slice (ua : Option Addr) (n uc : Nat) : ∀ u ∈ [Value.slice ua n uc], u.oneCell' = true := fun u hu => by rw [List.mem_singleton.1 hu]; rfl
section
variable {W : World} {ops : Array Oper} {rest : List Oper} {o : Oper} {a : Act} {Q : Exit → Act → World → Prop} {K : Act → World → Prop}
theorem wp_row1 (s x : Operand) (t : TypeId) (ho : o.op = .call { callee := .builtin .append, args := #[s, x], argTypes := #[t, t] }) (ht : Tryz.prog.underlying t = some (.slice 24))
    {B : Nat} {xa ua : Option Addr} {i xc n uc : Nat} {ls : List (List UInt8)} {l : List UInt8} {q : Nat} (hs : a.eval s = .slice xa i xc) (hx : a.eval x = .slice (some ⟨q, 0, none⟩) 1 1) (hq : q = W.heap.size)
    (hR : RowsOwn W B (.slice xa i xc) ls) (hu : Bytes W (.slice ua n uc) l) (hof : OffB (Value.slice xa i xc).ownBlock (.slice ua n uc) l) (hB : B ≤ W.heap.size) (hlen : ls.length ≤ 70000)
    (hK : ∀ ad c w', RowsOwn w' B (.slice ad (i + 1) c) (ls ++ [l]) → Below B W w' → K (a.put o.dst (.slice ad (i + 1) c)) w') : Oper.wp Tryz.prog o a (W.alloc (.cells #[.slice ua n uc] 24)) K Q := by
  subst hq
  have x6 : Ext W (W.alloc (.cells #[.slice ua n uc] 24)) := (Ext.refl W).alloc (Nat.le_refl _) _
  have hsrc : Cells (W.alloc (.cells #[.slice ua n uc] 24)) (.slice (some ⟨W.heap.size, 0, none⟩) 1 1) [.slice ua n uc] := (Own.new W 0 24 #[.slice ua n uc] (Nat.zero_le _) (by unfold maxLen; simp)).cells
  obtain ⟨vs, o1, o2, o3⟩ := hR.ext x6
  obtain ⟨a', c', e⟩ := o1.slice
  simp only [Value.slice.injEq] at e
  obtain ⟨rfl, rfl, rfl⟩ := e
  refine wp_appx s x t t 24 (.slice none 0 0) 24 ho ht info_bytes rfl hs o1 hx (Cells.src ht hsrc (one_slice _ _ _)) (by simp [maxLen]; omega) (by simp; omega) (Nat.le_trans hB x6.size) (vs.length + 1) (by simp) fun ad c w' ha => hK ad c w' ?_ ?_
  · exact RowsOwn.app o2 o3 (hu.ext x6) hof ha
  · exact Below.grown (Below.mono x6 hB) ha.2.1 (Nat.le_trans hB x6.size) (fun k hk => o1.block k hk)
end
end Go.Proofs.YthkbbcdnmdjhdaaGreat
/-! XMxK: Whether two matrices are the same: matrix.Same, the reference's Same. -/
namespace Go.Proofs.YthkbbcdnmdjhdaaGreat
open Go.RowKit
set_option maxRecDepth 100000
set_option maxHeartbeats 4000000
attribute [local go_sem] min_int2 max_int2 bstr_toList

theorem beq_any (v u : Value) (l k : List UInt8) (d : Bool) (hd : (l == k) = d) (w : World) (hV : Bytes w v l) (hU : Bytes w u k) :
    Calls Tryz.prog 74 #[v, u] w fun e w' => e = .returned (.bool d) ∧ w = w' := by
  obtain ⟨a, c, rfl⟩ := hV.slice
  obtain ⟨a2, c2, rfl⟩ := hU.slice
  have y1 := str_conv hV w (Ext.refl w)
  have y2 := str_conv hU w (Ext.refl w)
  clear hV hU
  go_enter Tryz.func74, Tryz.ntmps74
  go_wp2_with fail
  go_ret
  exact ⟨rfl, rfl⟩

theorem hmk_equal : ∀ (fn : Fn) (first cap : Array Value) (w : World), (Instr.makeFunc fn first cap).run Tryz.prog w = .ok (.func fn first cap) w := fun _ _ _ _ => rfl
end Go.Proofs.YthkbbcdnmdjhdaaGreat
/-! XMxN: matrix.Rows. -/
namespace Go.Proofs.YthkbbcdnmdjhdaaGreat
open Go.RowKit
set_option maxRecDepth 100000
set_option maxHeartbeats 4000000
attribute [local go_sem] min_int2 max_int2

theorem slice_one (x : Value) (a : Option Addr) (n c : Nat) (e : x = .slice a n c) : ∀ u ∈ [x], u.oneCell' = true := fun u hu => by rw [List.mem_singleton.1 hu, e]; rfl
end Go.Proofs.YthkbbcdnmdjhdaaGreat
/-! XMxR: The reference's Vandermonde. -/
namespace Go.Proofs.YthkbbcdnmdjhdaaGreat
open Go.RowKit Gf
set_option maxRecDepth 100000
set_option maxHeartbeats 4000000
attribute [local go_sem] min_int2 max_int2

theorem rvand_any (n c : Nat) (h1 : 1 ≤ n) (h2 : n ≤ 255) (h3 : 1 ≤ c) (h4 : c ≤ 255) (w : World) :
    Calls Tryz.prog 150 #[.int .i64 n, .int .i64 c] w fun e w' => ∃ u, e = .returned u ∧ RowsOwn w' w.heap.size u (Mat.vand n c) ∧ Ext w w' := by
  have hmk := make_byt c (by omega)
  go_enter Tryz.func150, Tryz.ntmps150
  go_wp2_with fail
  go_loopw [5, 6] (fun v4 v5 wr => ∃ (i : Nat) (xa : Option Addr) (xc : Nat), i ≤ n ∧ v5 = .int .i64 (i : Nat) ∧ v4 = .slice xa i xc ∧ Hid (RowsOwn wr w.heap.size (.slice xa i xc) ((Mat.vand n c).take i)) ∧ Below w.heap.size w wr) (fun _ v5 _ => (n - intOf v5).toNat)
  case atStart => exact ⟨0, _, _, by omega, rfl, rfl, Lib.hid (by rw [List.take_zero]; exact RowsOwn.nil _ _), Ext.refl _⟩
  case round =>
    obtain ⟨i, xa, xc, hi, rfl, rfl, hR, hBr⟩ := hrel
    by_cases hlt : i < n
    · have hlt' : (i : Int) < (n : Int) := by omega
      have xa1 : Ext wr (wr.alloc (.cells (Array.replicate c (.int .u8 0)) 5)) := (Ext.refl wr).alloc (Nat.le_refl _) _
      have o1 := (AppOut.zeros wr wr.heap.size c (Nat.le_refl _) (by omega) (.slice none 0 0)).1
      rw [List.nil_append, ← vrow_zero i c] at o1
      have O1 := Lib.hid o1
      have XA1 := Lib.hid xa1
      clear o1 xa1
      go_wp2_with fail
      go_loopw [8] (fun v8 wr2 => ∃ j : Nat, j ≤ c ∧ v8 = .int .i64 (j : Nat) ∧ Hid (Own wr2 wr.heap.size 5 (.slice (some ⟨wr.heap.size, 0, none⟩) c c) (bvs (vrow i c j))) ∧ Ext wr wr2) (fun v8 _ => (c - intOf v8).toNat)
      case atStart => exact ⟨0, by omega, rfl, O1, XA1.out⟩
      case round =>
        obtain ⟨j, hj, rfl, hO, hE⟩ := hrel
        rename World => wr2
        by_cases hlt2 : j < c
        · have hlt2' : (j : Int) < (c : Int) := by omega
          have c3 := hO.out.parts.2.2.2.2.2.1 j (bv 0) (by rw [List.getElem?_map, vrow_get i c j hlt2]; rfl)
          have u3 := hO.out.parts.2.2.2.2.2.2 j
          have hst := hO.out.set j (bv (Mat.pw (UInt8.ofNat i) j))
          rw [show (bvs (vrow i c j)).set j (bv (Mat.pw (UInt8.ofNat i) j)) = bvs ((vrow i c j).set j (Mat.pw (UInt8.ofNat i) j)) from by simp [List.map_set], vrow_succ i c j hlt2] at hst
          have HST := Lib.hid hst
          have hbb := Lib.hid (Below.set hE (Nat.le_refl _) j (bv (Mat.pw (UInt8.ofNat i) j)))
          have hpw := Mat.pw_gpow (UInt8.ofNat i) j (by omega)
          have hui : (UInt8.ofNat i).toNat = i := by rw [UInt8.toNat_ofNat']; exact Nat.mod_eq_of_lt (by omega)
          rw [hui] at hpw
          have HPW := Lib.hid hpw
          have hwp : IntKind.u8.wrap (i : Int) = (i : Int) := by rw [IntKind.wrap_u8]; omega
          clear hst hpw hui
          go_wp2_with fail
          refine (rpow_any i (by omega) j _).mono ?_; rintro e w' ⟨rfl, rfl⟩
          rw [HPW.out]
          go_wp2_with fail
          exact ⟨⟨j + 1, by omega, by go_num, HST, hbb.out⟩, by simp [intOf]; omega⟩
        · obtain rfl : j = c := by omega
          have hV : vrow i j j = (List.range j).map fun k => Mat.pw (UInt8.ofNat i) k := vrow_full i j
          have HP : Hid ((Mat.vand n j).take i ++ [vrow i j j] = (Mat.vand n j).take (i + 1)) := Lib.hid (by
            rw [List.take_add_one, hV]
            unfold Mat.vand
            simp [hlt])
          have HL : Hid (((Mat.vand n j).take i).length ≤ 70000) := Lib.hid (by simp; omega)
          have W := Lib.hid (And.intro hO.out (And.intro hE (And.intro (hR.out.ext hE) (OffB.fresh (r := (Value.slice xa i xc).ownBlock) hO.out (fun q hq => hR.out.block q hq)))))
          clear hlt2 hV
          go_wp2_with (at_builtin; refine list_of_wp rfl fun K hK => wp_row1 _ _ 215 rfl Tryz.underlying215 rfl rfl rfl W.out.2.2.1 W.out.1.cells W.out.2.2.2 (Nat.le_trans hBr.size W.out.2.1.size) HL.out fun ad c w7 hN hB7 => hK _ _ ?_)
          rw [HP.out] at hN
          have HN := Lib.hid hN
          have hB8 := Lib.hid (Below.trans (Below.trans hBr (Below.mono W.out.2.1 hBr.size)) hB7)
          clear hN hB7
          go_wp2_with fail
          exact ⟨⟨i + 1, _, _, by omega, by go_num, rfl, HN, hB8.out⟩, by simp [intOf]; omega⟩
    · obtain rfl : i = n := by omega
      have hN := hR.out
      rw [show (Mat.vand i c).take i = Mat.vand i c from List.take_of_length_le (by simp [Mat.vand])] at hN
      have HN := Lib.hid hN
      have HF := Lib.hid hBr
      clear hN hlt hmk
      go_wp2_with fail
      go_ret
      exact ⟨_, rfl, HN.out, HF.out⟩
end Go.Proofs.YthkbbcdnmdjhdaaGreat
/-! XMxO: The reference's Copy and Unit. -/
namespace Go.Proofs.YthkbbcdnmdjhdaaGreat
open Go.RowKit
set_option maxRecDepth 100000
set_option maxHeartbeats 4000000
attribute [local go_sem] min_int2 max_int2

theorem rcopy_any (v : Value) (ls : List (List UInt8)) (hl : ls.length ≤ 70000) (hr : ∀ r ∈ ls, r.length ≤ 70000) (w : World) (hV : BRows w v ls) :
    Calls Tryz.prog 173 #[v] w fun e w' => ∃ u, e = .returned u ∧ RowsOwn w' w.heap.size u ls ∧ Ext w w' := by
  obtain ⟨a, cap, rfl⟩ := hV.form
  have HV := Lib.hid hV
  have HE := Lib.hid hr
  clear hV hr
  go_enter Tryz.func173, Tryz.ntmps173
  go_wp2_with fail
  go_loopw [3, 4] (fun v3 v4 wr => ∃ (i : Nat) (xa : Option Addr) (xc : Nat), i ≤ ls.length ∧ v4 = .int .i64 (i : Nat) ∧ v3 = .slice xa i xc ∧ Hid (RowsOwn wr w.heap.size (.slice xa i xc) (ls.take i)) ∧ Below w.heap.size w wr) (fun _ v4 _ => (ls.length - intOf v4).toNat)
  case atStart => exact ⟨0, _, _, by omega, rfl, rfl, Lib.hid (by rw [List.take_zero]; exact RowsOwn.nil _ _), Ext.refl _⟩
  case round =>
    obtain ⟨i, xa, xc, hi, rfl, rfl, hR, hBr⟩ := hrel
    by_cases hlt : i < ls.length
    · have hlt' : (i : Int) < (ls.length : Int) := by omega
      obtain ⟨rb, ro, ra, rc, rfl, c1, hb⟩ := (HV.out.ext hBr).at (List.getElem?_eq_getElem hlt)
      obtain ⟨row, hrow⟩ : ∃ row, ls[i] = row := ⟨_, rfl⟩
      have hrl := HE.out _ (List.getElem_mem hlt)
      rw [hrow] at c1 hb hrl
      have HP : Hid (ls.take i ++ [row] = ls.take (i + 1)) := Lib.hid (by rw [List.take_add_one, List.getElem?_eq_getElem hlt, hrow]; rfl)
      have HL : Hid ((ls.take i).length ≤ 70000) := Lib.hid (by simp; omega)
      have HB := Lib.hid hb
      clear hb hrow
      go_wp2_with (first | (at_builtin; refine list_of_wp rfl fun K hK => wp_appx _ _ 24 24 5 (.int .u8 0) 1 rfl Tryz.underlying24 info_u8' rfl rfl (Own.nil wr wr.heap.size _) rfl (Cells.src Tryz.underlying24 HB.out (bvs_one _)) (by rw [bvs_len]; simp [maxLen]; omega) (by rw [bvs_len]; simp; omega) (Nat.le_refl _) row.length (by rw [bvs_len]; simp) fun ua uc w5 hu => hK _ _ ?_; rw [List.nil_append] at hu; have x5 : Ext wr w5 := Ext.grown hu.2.1 (fun k hk => by cases hk); have W := Lib.hid (And.intro hu.1 (And.intro (hR.out.ext x5) (OffB.fresh (r := (Value.slice xa i xc).ownBlock) hu.1 (fun q hq => hR.out.block q hq)))); have X5 := Lib.hid x5; clear hu x5 c1) | (at_builtin; refine list_of_wp rfl fun K hK => wp_row1 _ _ 215 rfl Tryz.underlying215 rfl rfl rfl W.out.2.1 W.out.1.cells W.out.2.2 (Nat.le_trans hBr.size X5.out.size) HL.out fun ad c w7 hN hB7 => hK _ _ ?_))
      rw [HP.out] at hN
      have HN := Lib.hid hN
      have hB8 := Lib.hid (Below.trans (Below.trans hBr (Below.mono X5.out hBr.size)) hB7)
      clear hN hB7
      go_wp2_with fail
      exact ⟨⟨i + 1, _, _, by omega, by go_num, rfl, HN, hB8.out⟩, by simp [intOf]; omega⟩
    · obtain rfl : i = ls.length := by omega
      have hN := hR.out
      rw [List.take_length] at hN
      have HN := Lib.hid hN
      have HF := Lib.hid hBr
      clear hN hlt
      go_wp2_with fail
      go_ret
      exact ⟨_, rfl, HN.out, HF.out⟩
theorem runit_any (n : Nat) (h1 : 1 ≤ n) (h2 : n ≤ 255) (w : World) :
    Calls Tryz.prog 174 #[.int .i64 n] w fun e w' => ∃ u, e = .returned u ∧ RowsOwn w' w.heap.size u (Mat.unit n) ∧ Ext w w' := by
  go_enter Tryz.func174, Tryz.ntmps174
  have hmk := make_byt n (by omega)
  go_wp2_with fail
  go_loopw [3, 4] (fun v3 v4 wr => ∃ (i : Nat) (xa : Option Addr) (xc : Nat), i ≤ n ∧ v4 = .int .i64 (i : Nat) ∧ v3 = .slice xa i xc ∧ Hid (RowsOwn wr w.heap.size (.slice xa i xc) ((Mat.unit n).take i)) ∧ Below w.heap.size w wr) (fun _ v4 _ => (n - intOf v4).toNat)
  case atStart => exact ⟨0, _, _, by omega, rfl, rfl, Lib.hid (by rw [List.take_zero]; exact RowsOwn.nil _ _), Ext.refl _⟩
  case round =>
    obtain ⟨i, xa, xc, hi, rfl, rfl, hR, hBr⟩ := hrel
    by_cases hlt : i < n
    · have hlt' : (i : Int) < (n : Int) := by omega
      have xa1 : Ext wr (wr.alloc (.cells (Array.replicate n (.int .u8 0)) 5)) := (Ext.refl wr).alloc (Nat.le_refl _) _
      have o2 : Own (wr.alloc (.cells ((Array.replicate n (.int .u8 0)).setIfInBounds i (.int .u8 1)) 5)) wr.heap.size 5 (.slice (some ⟨wr.heap.size, 0, none⟩) n n) (bvs ((List.replicate n 0).set i 1)) := by
        have h := Own.new wr wr.heap.size 5 ((Array.replicate n (.int .u8 0)).setIfInBounds i (.int .u8 1)) (Nat.le_refl _) (by simp [maxLen]; omega)
        have e : ((Array.replicate n (Value.int .u8 0)).setIfInBounds i (.int .u8 1)).toList = bvs ((List.replicate n 0).set i 1) := by
          simp [List.map_set]; rfl
        rw [e] at h
        simpa using h
      have c3 : (wr.alloc (.cells (Array.replicate n (.int .u8 0)) 5)).cell? ⟨wr.heap.size, i, none⟩ = some (.int .u8 0) := (Row.new wr 5 _).cell (by simp [hlt])
      have u3 : (wr.alloc (.cells (Array.replicate n (.int .u8 0)) 5)).frozen? ⟨wr.heap.size, i, none⟩ = false := (Row.new wr 5 _).unfrozen i
      have x2 : Ext wr (wr.alloc (.cells ((Array.replicate n (.int .u8 0)).setIfInBounds i (.int .u8 1)) 5)) := (Ext.refl wr).alloc (Nat.le_refl _) _
      have HP : Hid ((Mat.unit n).take i ++ [(List.replicate n 0).set i 1] = (Mat.unit n).take (i + 1)) := Lib.hid (by
        rw [List.take_add_one]
        unfold Mat.unit
        simp [hlt])
      have HL : Hid (((Mat.unit n).take i).length ≤ 70000) := Lib.hid (by simp; omega)
      have W := Lib.hid (And.intro o2 (And.intro x2 (And.intro (hR.out.ext x2) (OffB.fresh (r := (Value.slice xa i xc).ownBlock) o2 (fun q hq => hR.out.block q hq)))))
      clear o2 x2 xa1
      go_wp2_with (at_builtin; refine list_of_wp rfl fun K hK => wp_row1 _ _ 215 rfl Tryz.underlying215 rfl rfl (by simp) W.out.2.2.1 W.out.1.cells W.out.2.2.2 (Nat.le_trans hBr.size W.out.2.1.size) HL.out fun ad c w7 hN hB7 => hK _ _ ?_)
      rw [HP.out] at hN
      have HN := Lib.hid hN
      have hB8 := Lib.hid (Below.trans (Below.trans hBr (Below.mono W.out.2.1 hBr.size)) hB7)
      clear hN hB7 c3 u3
      go_wp2_with fail
      exact ⟨⟨i + 1, _, _, by omega, by go_num, rfl, HN, hB8.out⟩, by simp [intOf]; omega⟩
    · obtain rfl : i = n := by omega
      have hN := hR.out
      rw [show (Mat.unit i).take i = Mat.unit i from List.take_of_length_le (by simp [Mat.unit])] at hN
      have HN := Lib.hid hN
      have HF := Lib.hid hBr
      clear hN hlt hmk
      go_wp2_with fail
      go_ret
      exact ⟨_, rfl, HN.out, HF.out⟩
end Go.Proofs.YthkbbcdnmdjhdaaGreat
/-! XApart: A list of rows that grows by append, the rows the call's own and no two in one block: what may be written in place, and swapped. No statement about the program. -/
namespace Go.Proofs.YthkbbcdnmdjhdaaGreat
open Go.RowKit
set_option maxRecDepth 100000
set_option maxHeartbeats 1000000

/-- The rows vs of the list v: all in blocks from B on and below T, no two in one. -/
structure RAs (w : World) (B T : Nat) (v : Value) (vs : List Value) (ls : List (List UInt8)) : Prop where
  len : vs.length = ls.length
  list : Own w B 24 v vs
  top : ∀ q, v.ownBlock = some q → q < T
  row : ∀ (i : Nat) (u : Value) (l : List UInt8), vs[i]? = some u → ls[i]? = some l → Own w B 5 u (bvs l) ∧ (u.ownBlock = none ∨ u.ownBlock ≠ v.ownBlock) ∧ ∀ q, u.ownBlock = some q → q < T
  apart : ∀ (i j : Nat) (u x : Value), i ≠ j → vs[i]? = some u → vs[j]? = some x → u.ownBlock = none ∨ u.ownBlock ≠ x.ownBlock
def RA (w : World) (B T : Nat) (v : Value) (ls : List (List UInt8)) : Prop := ∃ vs, RAs w B T v vs ls
theorem RA.nil (w : World) (B T : Nat) : RA w B T (.slice none 0 0) [] := ⟨[], rfl, Own.nil _ _ _, (fun _ h => by cases h), (by simp), (by simp)⟩
theorem RAs.mono {w : World} {B B' T T' : Nat} {v : Value} {vs : List Value} {ls : List (List UInt8)} (h : RAs w B T v vs ls) (hB : B' ≤ B) (hT : T ≤ T') : RAs w B' T' v vs ls :=
  ⟨h.len, h.list.mono hB, fun q hq => by have := h.top q hq; omega, fun i u l hu hl => let ⟨a, b, c⟩ := h.row i u l hu hl; ⟨a.mono hB, b, fun q hq => by have := c q hq; omega⟩, h.apart⟩
theorem RA.mono {w : World} {B B' T T' : Nat} {v : Value} {ls : List (List UInt8)} (h : RA w B T v ls) (hB : B' ≤ B) (hT : T ≤ T') : RA w B' T' v ls := let ⟨vs, k⟩ := h; ⟨vs, k.mono hB hT⟩
theorem RAs.ext {w w' : World} {B T : Nat} {v : Value} {vs : List Value} {ls : List (List UInt8)} (h : RAs w B T v vs ls) (hx : Ext w w') : RAs w' B T v vs ls :=
  ⟨h.len, h.list.ext hx, h.top, fun i u l hu hl => let ⟨a, b, c⟩ := h.row i u l hu hl; ⟨a.ext hx, b, c⟩, h.apart⟩
theorem RA.ext {w w' : World} {B T : Nat} {v : Value} {ls : List (List UInt8)} (h : RA w B T v ls) (hx : Ext w w') : RA w' B T v ls := let ⟨vs, k⟩ := h; ⟨vs, k.ext hx⟩
theorem RAs.grown {w w' : World} {B T : Nat} {v : Value} {vs : List Value} {ls : List (List UInt8)} (h : RAs w B T v vs ls) {r : Option Nat} (hg : w.grownBy w' r) (hr : ∀ q, r = some q → q < B ∨ T ≤ q) : RAs w' B T v vs ls := by
  have key : ∀ (u : Value), (∀ q, u.ownBlock = some q → B ≤ q ∧ q < T) → u.ownBlock = none ∨ u.ownBlock ≠ r := fun u hu => by
    cases e : u.ownBlock with
    | none => exact .inl rfl
    | some q =>
      refine .inr fun h2 => ?_
      have h3 := hu q e
      have h4 := hr q h2.symm
      omega
  refine ⟨h.len, h.list.keep hg (key v fun q hq => ⟨h.list.block q hq, h.top q hq⟩), h.top, fun i u l hu hl => ?_, h.apart⟩
  obtain ⟨a, b, c⟩ := h.row i u l hu hl
  exact ⟨a.keep hg (key u fun q hq => ⟨a.block q hq, c q hq⟩), b, c⟩
theorem RA.grown {w w' : World} {B T : Nat} {v : Value} {ls : List (List UInt8)} (h : RA w B T v ls) {r : Option Nat} (hg : w.grownBy w' r) (hr : ∀ q, r = some q → q < B ∨ T ≤ q) : RA w' B T v ls := let ⟨vs, k⟩ := h; ⟨vs, k.grown hg hr⟩
/-- What is written elsewhere. -/
theorem RAs.off {w : World} {B T : Nat} {v : Value} {vs : List Value} {ls : List (List UInt8)} (h : RAs w B T v vs ls) {p : Addr} (hp : p.block < B ∨ T ≤ p.block) (u : Value) : RAs (w.setCell p u) B T v vs ls := by
  refine ⟨h.len, h.list.set_other (fun e => ?_) u, h.top, fun i x l hx hl => ?_, h.apart⟩
  · have := h.list.block _ e
    have := h.top _ e
    omega
  · obtain ⟨a, b, c⟩ := h.row i x l hx hl
    refine ⟨a.set_other (fun e => ?_) u, b, c⟩
    have := a.block _ e
    have := c _ e
    omega
theorem RA.off {w : World} {B T : Nat} {v : Value} {ls : List (List UInt8)} (h : RA w B T v ls) {p : Addr} (hp : p.block < B ∨ T ≤ p.block) (u : Value) : RA (w.setCell p u) B T v ls := let ⟨vs, k⟩ := h; ⟨vs, k.off hp u⟩
theorem RA.form {w : World} {B T : Nat} {v : Value} {ls : List (List UInt8)} (h : RA w B T v ls) : ∃ a c, v = .slice a ls.length c := by
  obtain ⟨vs, h⟩ := h
  obtain ⟨a, c, e⟩ := h.list.slice
  exact ⟨a, c, by rw [e, h.len]⟩
theorem RA.rows {w : World} {B T : Nat} {v : Value} {ls : List (List UInt8)} (h : RA w B T v ls) : RowsOwn w B v ls := by
  obtain ⟨vs, h⟩ := h
  refine ⟨vs, h.list, h.len, fun i u l hu hl => ?_⟩
  obtain ⟨a, b, c⟩ := h.row i u l hu hl
  refine ⟨a.cells, ?_⟩
  rcases b with b | b
  · exact .inr (.inl b)
  · exact .inr (.inr b)
theorem RA.brows {w : World} {B T : Nat} {v : Value} {ls : List (List UInt8)} (h : RA w B T v ls) : BRows w v ls := h.rows.brows
theorem RA.open1 {w : World} {B T : Nat} {v : Value} {ls : List (List UInt8)} (h : RA w B T v ls) (h0 : 0 < ls.length) : ∃ g c, v = .slice (some ⟨g, 0, none⟩) ls.length c ∧ B ≤ g ∧ g < T ∧ ∀ i, w.frozen? ⟨g, i, none⟩ = false := by
  obtain ⟨vs, h⟩ := h
  rcases h.list.forms with ⟨_, h2⟩ | ⟨g, cap, cur, h1, h2, h3, _⟩
  · have := h.len; rw [h2] at this; simp at this; omega
  · exact ⟨g, cap, by rw [h1, h.len], h2, h.top g (by rw [h1]; rfl), fun i => h3.unfrozen i⟩
/-- The row that stands at i: its cell, its bytes; one byte of it, written. -/
theorem RA.row {w : World} {B T g n c : Nat} {ls : List (List UInt8)} (h : RA w B T (.slice (some ⟨g, 0, none⟩) n c) ls) {i : Nat} {l : List UInt8} (hl : ls[i]? = some l) (h0 : 0 < l.length) :
    ∃ b rc, w.cell? ⟨g, i, none⟩ = some (.slice (some ⟨b, 0, none⟩) l.length rc) ∧ B ≤ b ∧ b < T ∧ b ≠ g ∧ (∀ (j : Nat) (x : UInt8), l[j]? = some x → w.cell? ⟨b, j, none⟩ = some (bv x)) ∧ (∀ j, w.frozen? ⟨b, j, none⟩ = false) ∧
      ∀ (j : Nat) (x : UInt8), RA (w.setCell ⟨b, j, none⟩ (bv x)) B T (.slice (some ⟨g, 0, none⟩) n c) (ls.set i (l.set j x)) := by
  obtain ⟨vs, h⟩ := h
  have hlen := h.len
  have hi : i < vs.length := by have := (List.getElem?_eq_some_iff.1 hl).1; omega
  obtain ⟨u, hu⟩ : ∃ u, vs[i]? = some u := ⟨_, List.getElem?_eq_getElem hi⟩
  obtain ⟨a, b, t⟩ := h.row i u l hu hl
  have hp := h.list.parts
  rcases a.forms with ⟨_, h2⟩ | ⟨q, cap, cur, h1, h2, h3, h4, h5, h6, h7⟩
  · simp at h2; subst h2; simp at h0
  · rw [bvs_len] at h1
    subst h1
    have ap := a
    have := a.parts
    have hqg : q ≠ g := fun e => by
      rcases b with b | b
      · cases b
      · exact b (by rw [e]; rfl)
    refine ⟨q, cap, hp.2.2.2.2.2.1 i _ hu, h2, t q rfl, hqg, fun j x hx => this.2.2.2.2.2.1 j _ (by simp [hx]), this.2.2.2.2.2.2, fun j x => ⟨vs, by simp [hlen], h.list.set_other (fun e => hqg (Option.some.inj e).symm) _, h.top, fun k y m hy hm => ?_, h.apart⟩⟩
    rw [List.getElem?_set] at hm
    by_cases e : i = k
    · subst e
      rw [if_pos rfl, if_pos (by omega)] at hm
      rw [hu] at hy
      simp only [Option.some.injEq] at hm hy
      rw [← hy, ← hm]
      refine ⟨?_, b, t⟩
      have hst := a.set j (bv x)
      have e : (bvs l).set j (bv x) = bvs (l.set j x) := by simp [List.map_set]
      rw [e] at hst
      exact hst
    · rw [if_neg e] at hm
      obtain ⟨k1, k2, k3⟩ := h.row k y m hy hm
      refine ⟨k1.set_other ?_ _, k2, k3⟩
      rcases h.apart k i y _ (fun h => e h.symm) hy hu with a | a
      · rw [a]; exact fun h => by cases h
      · exact a
/-- Two rows lie in two blocks. -/
theorem RA.two {w : World} {B T g n c : Nat} {ls : List (List UInt8)} (h : RA w B T (.slice (some ⟨g, 0, none⟩) n c) ls) {i j : Nat} (hij : i ≠ j) {b b' n1 n2 c1 c2 : Nat} (hi : i < ls.length) (hj : j < ls.length)
    (h1 : w.cell? ⟨g, i, none⟩ = some (.slice (some ⟨b, 0, none⟩) n1 c1)) (h2 : w.cell? ⟨g, j, none⟩ = some (.slice (some ⟨b', 0, none⟩) n2 c2)) : b ≠ b' := by
  obtain ⟨vs, h⟩ := h
  have hlen := h.len
  have hp := h.list.parts
  have e1 := hp.2.2.2.2.2.1 i _ (List.getElem?_eq_getElem (by omega))
  have e2 := hp.2.2.2.2.2.1 j _ (List.getElem?_eq_getElem (by omega))
  rw [h1] at e1
  rw [h2] at e2
  have f1 : vs[i]? = some (.slice (some ⟨b, 0, none⟩) n1 c1) := by rw [List.getElem?_eq_getElem (by omega)]; exact e1.symm
  have f2 : vs[j]? = some (.slice (some ⟨b', 0, none⟩) n2 c2) := by rw [List.getElem?_eq_getElem (by omega)]; exact e2.symm
  rcases h.apart i j _ _ hij f1 f2 with a | a
  · cases a
  · exact fun e => a (by rw [e]; rfl)
/-- A row that is taken away. -/
theorem RA.drop {w : World} {B T g n c : Nat} {ls : List (List UInt8)} (h : RA w B T (.slice (some ⟨g, 0, none⟩) n c) ls) (i : Nat) : RA (w.setCell ⟨g, i, none⟩ (.slice none 0 0)) B T (.slice (some ⟨g, 0, none⟩) n c) (ls.set i []) := by
  obtain ⟨vs, h⟩ := h
  have hlen := h.len
  refine ⟨vs.set i (.slice none 0 0), by simp [hlen], h.list.set i _, h.top, fun k y m hy hm => ?_, fun j j' u u' hjj hu hu' => ?_⟩
  · rw [List.getElem?_set] at hy hm
    by_cases e : i = k
    · rw [if_pos e] at hy hm
      split at hy
      · rename_i hi
        rw [if_pos (by omega)] at hm
        simp only [Option.some.injEq] at hm hy
        rw [← hy, ← hm]
        exact ⟨Own.nil _ _ _, .inl rfl, fun q hq => by cases hq⟩
      · cases hy
    · rw [if_neg e] at hy hm
      obtain ⟨k1, k2, k3⟩ := h.row k y m hy hm
      refine ⟨k1.set_other ?_ _, k2, k3⟩
      rcases k2 with a | a
      · rw [a]; exact fun h => by cases h
      · exact a
  · rw [List.getElem?_set] at hu hu'
    by_cases e : i = j
    · rw [if_pos e] at hu
      split at hu
      · simp only [Option.some.injEq] at hu; subst hu; exact .inl rfl
      · cases hu
    · rw [if_neg e] at hu
      by_cases e2 : i = j'
      · rw [if_pos e2] at hu'
        split at hu'
        · simp only [Option.some.injEq] at hu'
          subst hu'
          cases hb : u.ownBlock with
          | none => exact .inl rfl
          | some b => exact .inr (by simp [Value.ownBlock])
        · cases hu'
      · rw [if_neg e2] at hu'
        exact h.apart j j' u u' hjj hu hu'
/-- Two rows that change their places. -/
theorem RA.swap {w : World} {B T g n c : Nat} {ls : List (List UInt8)} (h : RA w B T (.slice (some ⟨g, 0, none⟩) n c) ls) {i p : Nat} {u x : Value} {l k : List UInt8} (hi : w.cell? ⟨g, i, none⟩ = some u) (hp : w.cell? ⟨g, p, none⟩ = some x)
    (hl : ls[i]? = some l) (hk : ls[p]? = some k) : RA ((w.setCell ⟨g, i, none⟩ x).setCell ⟨g, p, none⟩ u) B T (.slice (some ⟨g, 0, none⟩) n c) ((ls.set i k).set p l) := by
  obtain ⟨vs, h⟩ := h
  have hlen := h.len
  have hil := (List.getElem?_eq_some_iff.1 hl).1
  have hpl := (List.getElem?_eq_some_iff.1 hk).1
  have hq := h.list.parts
  have e1 := hq.2.2.2.2.2.1 i _ (List.getElem?_eq_getElem (by omega))
  have e2 := hq.2.2.2.2.2.1 p _ (List.getElem?_eq_getElem (by omega))
  rw [hi] at e1
  rw [hp] at e2
  have f1 : vs[i]? = some u := by rw [List.getElem?_eq_getElem (by omega)]; exact e1.symm
  have f2 : vs[p]? = some x := by rw [List.getElem?_eq_getElem (by omega)]; exact e2.symm
  -- where each new one comes from
  have from_ : ∀ (j : Nat) (y : Value), ((vs.set i x).set p u)[j]? = some y → ∃ j', vs[j']? = some y ∧ (((ls.set i k).set p l)[j]? = ls[j']?) ∧ (j' = if p = j then i else if i = j then p else j) := fun j y hy => by
    rw [List.getElem?_set] at hy
    by_cases c1 : p = j
    · rw [if_pos c1, if_pos (by simp; omega)] at hy
      refine ⟨i, by rw [f1, ← hy], ?_, by rw [if_pos c1]⟩
      rw [List.getElem?_set, if_pos c1, if_pos (by simp; omega), hl]
    · rw [if_neg c1, List.getElem?_set] at hy
      by_cases c2 : i = j
      · rw [if_pos c2, if_pos (by omega)] at hy
        refine ⟨p, by rw [f2, ← hy], ?_, by rw [if_neg c1, if_pos c2]⟩
        rw [List.getElem?_set, if_neg c1, List.getElem?_set, if_pos c2, if_pos (by omega), hk]
      · rw [if_neg c2] at hy
        refine ⟨j, hy, ?_, by rw [if_neg c1, if_neg c2]⟩
        rw [List.getElem?_set, if_neg c1, List.getElem?_set, if_neg c2]
  refine ⟨(vs.set i x).set p u, by simp [hlen], (h.list.set i x).set p u, h.top, fun j y m hy hm => ?_, fun j j' y y' hjj hy hy' => ?_⟩
  · obtain ⟨j', h1, h2, -⟩ := from_ j y hy
    rw [h2] at hm
    obtain ⟨k1, k2, k3⟩ := h.row j' y m h1 hm
    have hne : y.ownBlock ≠ some g := by
      rcases k2 with a | a
      · rw [a]; exact fun h => by cases h
      · exact a
    exact ⟨(k1.set_other hne _).set_other hne _, k2, k3⟩
  · obtain ⟨q, h1, -, h3⟩ := from_ j y hy
    obtain ⟨q', h1', -, h3'⟩ := from_ j' y' hy'
    refine h.apart q q' y y' ?_ h1 h1'
    rw [h3, h3']
    intro e
    split at e <;> split at e <;> (try split at e) <;> (try split at e) <;> omega
/-- The i-th row's value and bytes. -/
theorem RA.at {w : World} {B T g n c : Nat} {ls : List (List UInt8)} (h : RA w B T (.slice (some ⟨g, 0, none⟩) n c) ls) {i : Nat} {l : List UInt8} (hl : ls[i]? = some l) : ∃ ra rc, w.cell? ⟨g, i, none⟩ = some (.slice ra l.length rc) ∧ Bytes w (.slice ra l.length rc) l := by
  obtain ⟨b, o, ra, rc, e, c1, hb⟩ := h.brows.at hl
  simp only [Option.some.injEq, Addr.mk.injEq, and_true] at e
  obtain ⟨rfl, rfl⟩ := e
  rw [Nat.zero_add] at c1
  exact ⟨ra, rc, c1, hb⟩

section
variable {W : World} {ops : Array Oper} {rest : List Oper} {o : Oper} {a : Act} {Q : Exit → Act → World → Prop} {K : Act → World → Prop}
/-- append of one row that was made behind all that there was in w0. -/
theorem wp_rowA (s x : Operand) (t : TypeId) (ho : o.op = .call { callee := .builtin .append, args := #[s, x], argTypes := #[t, t] }) (ht : Tryz.prog.underlying t = some (.slice 24))
    {w0 : World} {B T : Nat} {xa ua : Option Addr} {i xc n uc : Nat} {ls : List (List UInt8)} {l : List UInt8} {q : Nat} (hs : a.eval s = .slice xa i xc) (hx : a.eval x = .slice (some ⟨q, 0, none⟩) 1 1) (hq : q = W.heap.size)
    (hR : RA w0 B T (.slice xa i xc) ls) (h0 : Ext w0 W) (hu : Own W w0.heap.size 5 (.slice ua n uc) (bvs l)) (hT : T ≤ w0.heap.size) (hB : B ≤ w0.heap.size) (hlen : ls.length ≤ 70000)
    (hK : ∀ ad c w', RA w' B w'.heap.size (.slice ad (i + 1) c) (ls ++ [l]) → Below B W w' → K (a.put o.dst (.slice ad (i + 1) c)) w') : Oper.wp Tryz.prog o a (W.alloc (.cells #[.slice ua n uc] 24)) K Q := by
  subst hq
  have x6 : Ext W (W.alloc (.cells #[.slice ua n uc] 24)) := (Ext.refl W).alloc (Nat.le_refl _) _
  have hsrc : Cells (W.alloc (.cells #[.slice ua n uc] 24)) (.slice (some ⟨W.heap.size, 0, none⟩) 1 1) [.slice ua n uc] := (Own.new W 0 24 #[.slice ua n uc] (Nat.zero_le _) (by unfold maxLen; simp)).cells
  obtain ⟨vs, hRs⟩ := hR
  have hRx := hRs.ext (Ext.trans h0 x6)
  have hs0 := h0.size
  have hs1 := x6.size
  obtain ⟨a', c', e⟩ := hRx.list.slice
  simp only [Value.slice.injEq] at e
  obtain ⟨rfl, rfl, rfl⟩ := e
  refine wp_appx s x t t 24 (.slice none 0 0) 24 ho ht info_bytes rfl hs hRx.list hx (Cells.src ht hsrc (one_slice _ _ _)) (by simp [maxLen]; have := hRs.len; omega) (by simp; have := hRs.len; omega) (by omega) (vs.length + 1) (by simp) fun ad c w' ha => hK ad c w' ?_ ?_
  · obtain ⟨o1, o2, o3⟩ := ha
    have hsz : w0.heap.size ≤ w'.heap.size := by have := o2.size; omega
    have hu2 := hu.ext x6
    have hlb := fun q hq => hRs.top q hq
    have hvT : ∀ q, (Value.slice xa vs.length xc).ownBlock = some q → q < w0.heap.size := fun q hq => by have := hRs.top q hq; omega
    have huT : ∀ q, (Value.slice ua n uc).ownBlock = some q → w0.heap.size ≤ q ∧ q < (W.alloc (.cells #[.slice ua n uc] 24)).heap.size := fun q hq => World.ownsRow.lt hu2 q hq
    have hnew : ∀ q, (Value.slice ad (vs.length + 1) c).ownBlock = some q → q < w0.heap.size ∨ (W.alloc (.cells #[.slice ua n uc] 24)).heap.size ≤ q := fun q hq => by
      rcases o3 with o3 | ⟨r, o3, hr⟩
      · rw [o3] at hq; exact .inl (hvT q hq)
      · rw [o3] at hq; injection hq with hq; omega
    have hlt : ∀ (i : Nat) (y : Value), (vs ++ [Value.slice ua n uc])[i]? = some y → (i < vs.length ∧ vs[i]? = some y) ∨ (i = vs.length ∧ y = .slice ua n uc) := fun i y hy => by
      by_cases hi : i < vs.length
      · rw [List.getElem?_append_left hi] at hy; exact .inl ⟨hi, hy⟩
      · have h2 := (List.getElem?_eq_some_iff.1 hy).1
        simp at h2
        obtain rfl : i = vs.length := by omega
        rw [List.getElem?_append_right (Nat.le_refl _), Nat.sub_self] at hy
        exact .inr ⟨rfl, by simpa using hy.symm⟩
    have hll := hRs.len
    refine ⟨vs ++ [.slice ua n uc], by simp [hll], o1, fun q hq => (World.ownsRow.lt o1 q hq).2, fun i y m hy hm => ?_, fun i j y y' hij hy hy' => ?_⟩
    · rcases hlt i y hy with ⟨hi, hv⟩ | ⟨rfl, rfl⟩
      · rw [List.getElem?_append_left (by omega)] at hm
        obtain ⟨k1, k2, k3⟩ := hRx.row i y m hv hm
        refine ⟨k1.keep o2 k2, ?_, fun q hq => by have := k3 q hq; omega⟩
        cases e : y.ownBlock with
        | none => exact .inl rfl
        | some b =>
          right
          intro h
          have hb := k3 b e
          rcases o3 with o3 | ⟨r, o3, hr⟩
          · rw [o3, ← e] at h
            rcases k2 with k2 | k2
            · rw [k2] at e; cases e
            · exact k2 h
          · rw [o3] at h; injection h with h; omega
      · rw [hll, List.getElem?_append_right (Nat.le_refl _), Nat.sub_self] at hm
        obtain rfl : l = m := by simpa using hm
        refine ⟨(hu2.keep o2 ?_).mono hB, ?_, fun q hq => by have := huT q hq; have := o2.size; omega⟩
        · cases e : (Value.slice ua n uc).ownBlock with
          | none => exact .inl rfl
          | some b =>
            right
            intro h
            have h1 := huT b e
            have h2 := hvT b h.symm
            omega
        · cases e : (Value.slice ua n uc).ownBlock with
          | none => exact .inl rfl
          | some b =>
            right
            intro h
            have h1 := huT b e
            have h2 := hnew b h.symm
            omega
    · rcases hlt i y hy with ⟨hi, hv⟩ | ⟨rfl, rfl⟩
      · rcases hlt j y' hy' with ⟨hj, hv'⟩ | ⟨rfl, rfl⟩
        · exact hRx.apart i j y y' hij hv hv'
        · cases e : y.ownBlock with
          | none => exact .inl rfl
          | some b =>
            right
            intro h
            obtain ⟨m, hm⟩ : ∃ m, ls[i]? = some m := ⟨_, List.getElem?_eq_getElem (by omega)⟩
            have h1 := (hRx.row i y m hv hm).2.2 b e
            have h2 := huT b h.symm
            omega
      · rcases hlt j y' hy' with ⟨hj, hv'⟩ | ⟨rfl, rfl⟩
        · cases e : (Value.slice ua n uc).ownBlock with
          | none => exact .inl rfl
          | some b =>
            right
            intro h
            obtain ⟨m, hm⟩ : ∃ m, ls[j]? = some m := ⟨_, List.getElem?_eq_getElem (by omega)⟩
            have h1 := (hRx.row j y' m hv' hm).2.2 b h.symm
            have h2 := huT b e
            omega
        · exact absurd rfl hij
  · exact Below.grown (Below.mono x6 (by omega)) ha.2.1 (by omega) (fun k hk => hRs.list.block k hk)
end
end Go.Proofs.YthkbbcdnmdjhdaaGreat
/-! XRefA: The reference's Copy and Unit: their rows lie apart. -/
namespace Go.Proofs.YthkbbcdnmdjhdaaGreat
open Go.RowKit
set_option maxRecDepth 100000
set_option maxHeartbeats 4000000
attribute [local go_sem] min_int2 max_int2

theorem rcopyA_any (v : Value) (ls : List (List UInt8)) (hl : ls.length ≤ 70000) (hr : ∀ r ∈ ls, r.length ≤ 70000) (w : World) (hV : BRows w v ls) :
    Calls Tryz.prog 173 #[v] w fun e w' => ∃ u, e = .returned u ∧ RA w' w.heap.size w'.heap.size u ls ∧ Ext w w' := by
  obtain ⟨a, cap, rfl⟩ := hV.form
  have HV := Lib.hid hV
  have HE := Lib.hid hr
  clear hV hr
  go_enter Tryz.func173, Tryz.ntmps173
  go_wp2_with fail
  go_loopw [3, 4] (fun v3 v4 wr => ∃ (i : Nat) (xa : Option Addr) (xc : Nat), i ≤ ls.length ∧ v4 = .int .i64 (i : Nat) ∧ v3 = .slice xa i xc ∧ Hid (RA wr w.heap.size wr.heap.size (.slice xa i xc) (ls.take i)) ∧ Below w.heap.size w wr) (fun _ v4 _ => (ls.length - intOf v4).toNat)
  case atStart => exact ⟨0, _, _, by omega, rfl, rfl, Lib.hid (by rw [List.take_zero]; exact RA.nil _ _ _), Ext.refl _⟩
  case round =>
    obtain ⟨i, xa, xc, hi, rfl, rfl, hR, hBr⟩ := hrel
    by_cases hlt : i < ls.length
    · have hlt' : (i : Int) < (ls.length : Int) := by omega
      obtain ⟨rb, ro, ra, rc, rfl, c1, hb⟩ := (HV.out.ext hBr).at (List.getElem?_eq_getElem hlt)
      obtain ⟨row, hrow⟩ : ∃ row, ls[i] = row := ⟨_, rfl⟩
      have hrl := HE.out _ (List.getElem_mem hlt)
      rw [hrow] at c1 hb hrl
      have HP : Hid (ls.take i ++ [row] = ls.take (i + 1)) := Lib.hid (by rw [List.take_add_one, List.getElem?_eq_getElem hlt, hrow]; rfl)
      have HL : Hid ((ls.take i).length ≤ 70000) := Lib.hid (by simp; omega)
      have HB := Lib.hid hb
      clear hb hrow
      go_wp2_with (first | (at_builtin; refine list_of_wp rfl fun K hK => wp_appx _ _ 24 24 5 (.int .u8 0) 1 rfl Tryz.underlying24 info_u8' rfl rfl (Own.nil wr wr.heap.size _) rfl (Cells.src Tryz.underlying24 HB.out (bvs_one _)) (by rw [bvs_len]; simp [maxLen]; omega) (by rw [bvs_len]; simp; omega) (Nat.le_refl _) row.length (by rw [bvs_len]; simp) fun ua uc w5 hu => hK _ _ ?_; rw [List.nil_append] at hu; have x5 : Ext wr w5 := Ext.grown hu.2.1 (fun k hk => by cases hk); have W := Lib.hid hu.1; have X5 := Lib.hid x5; clear hu x5 c1) | (at_builtin; refine list_of_wp rfl fun K hK => wp_rowA _ _ 215 rfl Tryz.underlying215 rfl rfl rfl hR.out X5.out W.out (Nat.le_refl _) hBr.size HL.out fun ad c w7 hN hB7 => hK _ _ ?_))
      rw [HP.out] at hN
      have HN := Lib.hid hN
      have hB8 := Lib.hid (Below.trans (Below.trans hBr (Below.mono X5.out hBr.size)) hB7)
      clear hN hB7
      go_wp2_with fail
      exact ⟨⟨i + 1, _, _, by omega, by go_num, rfl, HN, hB8.out⟩, by simp [intOf]; omega⟩
    · obtain rfl : i = ls.length := by omega
      have hN := hR.out
      rw [List.take_length] at hN
      have HN := Lib.hid hN
      have HF := Lib.hid hBr
      clear hN hlt
      go_wp2_with fail
      go_ret
      exact ⟨_, rfl, HN.out, HF.out⟩
theorem runitA_any (n : Nat) (h1 : 1 ≤ n) (h2 : n ≤ 255) (w : World) :
    Calls Tryz.prog 174 #[.int .i64 n] w fun e w' => ∃ u, e = .returned u ∧ RA w' w.heap.size w'.heap.size u (Mat.unit n) ∧ Ext w w' := by
  go_enter Tryz.func174, Tryz.ntmps174
  have hmk := make_byt n (by omega)
  go_wp2_with fail
  go_loopw [3, 4] (fun v3 v4 wr => ∃ (i : Nat) (xa : Option Addr) (xc : Nat), i ≤ n ∧ v4 = .int .i64 (i : Nat) ∧ v3 = .slice xa i xc ∧ Hid (RA wr w.heap.size wr.heap.size (.slice xa i xc) ((Mat.unit n).take i)) ∧ Below w.heap.size w wr) (fun _ v4 _ => (n - intOf v4).toNat)
  case atStart => exact ⟨0, _, _, by omega, rfl, rfl, Lib.hid (by rw [List.take_zero]; exact RA.nil _ _ _), Ext.refl _⟩
  case round =>
    obtain ⟨i, xa, xc, hi, rfl, rfl, hR, hBr⟩ := hrel
    by_cases hlt : i < n
    · have hlt' : (i : Int) < (n : Int) := by omega
      have xa1 : Ext wr (wr.alloc (.cells (Array.replicate n (.int .u8 0)) 5)) := (Ext.refl wr).alloc (Nat.le_refl _) _
      have o2 : Own (wr.alloc (.cells ((Array.replicate n (.int .u8 0)).setIfInBounds i (.int .u8 1)) 5)) wr.heap.size 5 (.slice (some ⟨wr.heap.size, 0, none⟩) n n) (bvs ((List.replicate n 0).set i 1)) := by
        have h := Own.new wr wr.heap.size 5 ((Array.replicate n (.int .u8 0)).setIfInBounds i (.int .u8 1)) (Nat.le_refl _) (by simp [maxLen]; omega)
        have e : ((Array.replicate n (Value.int .u8 0)).setIfInBounds i (.int .u8 1)).toList = bvs ((List.replicate n 0).set i 1) := by
          simp [List.map_set]; rfl
        rw [e] at h
        simpa using h
      have c3 : (wr.alloc (.cells (Array.replicate n (.int .u8 0)) 5)).cell? ⟨wr.heap.size, i, none⟩ = some (.int .u8 0) := (Row.new wr 5 _).cell (by simp [hlt])
      have u3 : (wr.alloc (.cells (Array.replicate n (.int .u8 0)) 5)).frozen? ⟨wr.heap.size, i, none⟩ = false := (Row.new wr 5 _).unfrozen i
      have x2 : Ext wr (wr.alloc (.cells ((Array.replicate n (.int .u8 0)).setIfInBounds i (.int .u8 1)) 5)) := (Ext.refl wr).alloc (Nat.le_refl _) _
      have HP : Hid ((Mat.unit n).take i ++ [(List.replicate n 0).set i 1] = (Mat.unit n).take (i + 1)) := Lib.hid (by
        rw [List.take_add_one]
        unfold Mat.unit
        simp [hlt])
      have HL : Hid (((Mat.unit n).take i).length ≤ 70000) := Lib.hid (by simp; omega)
      have W := Lib.hid (And.intro o2 x2)
      clear o2 x2 xa1
      go_wp2_with (at_builtin; refine list_of_wp rfl fun K hK => wp_rowA _ _ 215 rfl Tryz.underlying215 rfl rfl (by simp) hR.out W.out.2 W.out.1 (Nat.le_refl _) hBr.size HL.out fun ad c w7 hN hB7 => hK _ _ ?_)
      rw [HP.out] at hN
      have HN := Lib.hid hN
      have hB8 := Lib.hid (Below.trans (Below.trans hBr (Below.mono W.out.2 hBr.size)) hB7)
      clear hN hB7 c3 u3
      go_wp2_with fail
      exact ⟨⟨i + 1, _, _, by omega, by go_num, rfl, HN, hB8.out⟩, by simp [intOf]; omega⟩
    · obtain rfl : i = n := by omega
      have hN := hR.out
      rw [show (Mat.unit i).take i = Mat.unit i from List.take_of_length_le (by simp [Mat.unit])] at hN
      have HN := Lib.hid hN
      have HF := Lib.hid hBr
      clear hN hlt hmk
      go_wp2_with fail
      go_ret
      exact ⟨_, rfl, HN.out, HF.out⟩
end Go.Proofs.YthkbbcdnmdjhdaaGreat
