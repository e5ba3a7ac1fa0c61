/-
  The tenth layer's statements: awake.
  A slice of deeds that came in; Room.
  Room: are deeds few and small?
  DiskFuse.
  Look, Room, Offline, Fail, Wipe.
  List of a disk that is off.
  DiskFails.
  DiskFails: the walk.
  Files: the walk, over what the sort does (SortOk).
  Files: the walk.
-/
import Derived.Test.YthkbbcdnmdjhdaaGreatD1
import Derived.Lib.SlBytesConst
import Derived.Test.YthkbbcdnmdjhdaaGreatA1
import Derived.Deep.Fields
/-! XDkJ: The tenth layer's statements: awake. -/
namespace Go.Proofs.YthkbbcdnmdjhdaaGreat
open Go.RowKit Dk
set_option maxRecDepth 100000
set_option maxHeartbeats 4000000
attribute [local go_sem] min_int2 max_int2 bstr_toList

def dk0 (n : Nat) : DS := ⟨n, false, 0, []⟩
def zz (n : Nat) : Option FS := some ⟨0, n, false⟩
theorem aw1 : writes (zz 0) (dk0 100) [97] [120, 121] = (0, zz 1, ⟨100, false, 0, [([97], ⟨[120, 121], false⟩)]⟩) := by kernel_rfl
theorem aw2 : syncs (zz 1) ⟨100, false, 0, [([97], ⟨[120, 121], false⟩)]⟩ [97] = (0, zz 2, ⟨100, false, 0, [([97], ⟨[120, 121], true⟩)]⟩) := by kernel_rfl
theorem aw3 : renames (zz 2) ⟨100, false, 0, [([97], ⟨[120, 121], true⟩)]⟩ [97] [98] = (0, zz 3, ⟨100, false, 0, [([98], ⟨[120, 121], true⟩)]⟩) := by kernel_rfl
theorem aw4 : DS.crash 0 ⟨100, false, 0, [([98], ⟨[120, 121], true⟩)]⟩ = ⟨100, false, 0, [([98], ⟨[120, 121], true⟩)]⟩ := by kernel_rfl
theorem aw5 : opens (zz 3) ⟨100, false, 0, [([98], ⟨[120, 121], true⟩)]⟩ [98] [] = 0 ∧ readb (zz 3) ⟨100, false, 0, [([98], ⟨[120, 121], true⟩)]⟩ [98] = [120, 121] ∧ begins (zz 3) ⟨100, false, 0, [([98], ⟨[120, 121], true⟩)]⟩ [[98]] = (0, zz 4, ⟨100, false, 0, [([98], ⟨[120, 121], true⟩)]⟩) := ⟨by kernel_rfl, by kernel_rfl, by kernel_rfl⟩
theorem Chg.after2 {T : Nat → Prop} {w w' w'' : World} (h : Ext w w') (k : Chg T w' w'') (hT : ∀ b, T b → w.heap.size ≤ b) : Ext w w'' :=
  ⟨k.os.trans h.os, k.tape.trans h.tape, k.output.trans h.output, Nat.le_trans h.size k.size, fun b hb => (k.block b (Nat.lt_of_lt_of_le hb h.size) (fun ht => by have := hT b ht; omega)).trans (h.block b hb)⟩
/-- A block of bytes of a constant. -/
theorem const_bytes (w : World) (l : List UInt8) (C : Array Value) (hC : C.toList = bvs l) (fz : Nat × Nat) : Bytes (w.alloc (.cells C 5 fz)) (.slice (some ⟨w.heap.size, 0, none⟩) l.length l.length) l := by
  refine ⟨_, l.length, by rw [bvs_len], by rw [bvs_len]; exact Nat.le_refl _, (fun h => by cases h), fun j u hu => ⟨_, rfl, ?_⟩⟩
  rw [Addr.add_lit, Nat.zero_add]
  have hb : (w.alloc (.cells C 5 fz)).heap[w.heap.size]? = some (.cells C 5 fz) := by unfold World.alloc; simp
  have hj : C[j]? = some u := by rw [← Array.getElem?_toList, hC]; exact hu
  unfold World.cell?
  rw [hb]
  exact hj
end Go.Proofs.YthkbbcdnmdjhdaaGreat
/-! XDkK: A slice of deeds that came in; Room. -/
namespace Go.Proofs.YthkbbcdnmdjhdaaGreat
open Go.RowKit Dk Go.ChangeShapes Go.WideShapes
set_option maxRecDepth 100000
set_option maxHeartbeats 4000000
attribute [local go_sem] min_int2 max_int2 bstr_toList

/-- What is done on a disk. -/
structure Deed where
  act : Int
  n : Int
  a : Path
  b : Path
  data : List UInt8
def DeedAt (w : World) (b o : Nat) (x : Deed) : Prop := ∃ da dc, w.cell? ⟨b, o, none⟩ = some (.int .i64 x.act) ∧ w.cell? ⟨b, o + 1, none⟩ = some (.int .i64 x.n) ∧ w.cell? ⟨b, o + 2, none⟩ = some (.string (bstr x.a)) ∧
  w.cell? ⟨b, o + 3, none⟩ = some (.string (bstr x.b)) ∧ w.cell? ⟨b, o + 4, none⟩ = some (.slice da x.data.length dc) ∧ Bytes w (.slice da x.data.length dc) x.data
def Deed.ok (x : Deed) : Prop := (-9223372036854775808 ≤ x.act ∧ x.act ≤ 9223372036854775807) ∧ (-9223372036854775808 ≤ x.n ∧ x.n ≤ 9223372036854775807) ∧ x.a.length ≤ maxLen ∧ x.b.length ≤ maxLen ∧ x.data.length ≤ maxLen
def Deeds (w : World) (v : Value) (l : List Deed) : Prop := ∃ a cap, v = .slice a l.length cap ∧ l.length ≤ cap ∧ ∀ j x, l[j]? = some x → x.ok ∧ ∃ b o, a = some ⟨b, o, none⟩ ∧ DeedAt w b (o + j * 5) x
theorem DeedAt.ext {w w' : World} {b o : Nat} {x : Deed} (h : DeedAt w b o x) (hx : Ext w w') : DeedAt w' b o x := by
  obtain ⟨da, dc, h0, h1, h2, h3, h4, h5⟩ := h
  exact ⟨da, dc, hx.cell h0, hx.cell h1, hx.cell h2, hx.cell h3, hx.cell h4, Cells.ext h5 hx⟩
theorem Deeds.ext {w w' : World} {v : Value} {l : List Deed} (h : Deeds w v l) (hx : Ext w w') : Deeds w' v l := by
  obtain ⟨a, cap, e, hl, hc⟩ := h
  exact ⟨a, cap, e, hl, fun j x hj => by
    obtain ⟨ok, b, o, e1, e2⟩ := hc j x hj
    exact ⟨ok, b, o, e1, e2.ext hx⟩⟩
theorem Deeds.form {w : World} {v : Value} {l : List Deed} (h : Deeds w v l) : ∃ a c, v = .slice a l.length c := by obtain ⟨a, cap, e, -⟩ := h; exact ⟨a, cap, e⟩
theorem Deeds.at {w : World} {a : Option Addr} {n c : Nat} {l : List Deed} (h : Deeds w (.slice a n c) l) {j : Nat} {x : Deed} (hj : l[j]? = some x) : x.ok ∧ ∃ b o, a = some ⟨b, o, none⟩ ∧ DeedAt w b (o + j * 5) x := by
  obtain ⟨a', cap, e, hl, hc⟩ := h
  simp only [Value.slice.injEq] at e
  obtain ⟨rfl, -, -⟩ := e
  exact hc j x hj

section
variable {H : Type} {enc : TypeId × Value → H} {w : World} {base : Nat} {spare : Nat → Bool} {held : Bool}
theorem in_deeds {fuel : Nat} {cs : List Value} {x : DataW H × List MemPlace} (h : DataW.trod enc Tryz.prog w base spare held fuel 72 cs = some x) : ∃ v l, cs = [v] ∧ Deeds w v l ∧ l.length ≤ maxLen := by
  rcases Go.Deep.open_slice Tryz.underlying72 h with ⟨rfl, _⟩ | ⟨a, len, cap, m, n, D, Pl, rfl, _, hl, hcap, hm, _, hel⟩
  · exact ⟨_, [], rfl, ⟨none, 0, rfl, Nat.le_refl _, by simp⟩, by simp⟩
  · have hlm : len ≤ m := by rw [hm]; split <;> omega
    have hC : Program.cellsOf Tryz.prog 74 = 5 := by kernel_rfl
    have hpl : ∀ i, i < len → a = ⟨a.block, a.off, none⟩ := by
      intro i hi
      obtain ⟨cs', h1, -⟩ := hel 0 (by omega)
      rw [hC] at h1
      obtain ⟨_, hlen, hat⟩ := World.cells?_some h1
      have g0 := hat 0 (by omega)
      have e0 : (a.add (0 * 5)).add 0 = a := by simp [Addr.add]
      rw [e0, List.getElem?_eq_getElem (by omega)] at g0
      exact addr_plain g0
    have one : ∀ i, i < len → ∃ y : Deed, y.ok ∧ ∃ b o, a = ⟨b, o, none⟩ ∧ DeedAt w b (o + i * 5) y := by
      intro i hi
      obtain ⟨cs', h1, h2⟩ := hel i (by omega)
      rw [hC] at h1
      obtain ⟨xs, k, _, _, h3, h4, h5⟩ := DataW.trod_struct Tryz.underlying74 h2
      obtain ⟨_, hlen, hat⟩ := World.cells?_some h1
      match cs', hlen with
      | [c0, c1, c2, c3, c4], _ =>
        have g0 := hat 0 (by omega)
        have g1 := hat 1 (by omega)
        have g2 := hat 2 (by omega)
        have g3 := hat 3 (by omega)
        have g4 := hat 4 (by omega)
        have k0 : Program.cellsOf Tryz.prog 3 = 1 := by kernel_rfl
        have k2 : Program.cellsOf Tryz.prog 9 = 1 := by kernel_rfl
        have k4 : Program.cellsOf Tryz.prog 24 = 1 := by kernel_rfl
        have hx5 : xs.length = 5 := h4
        have f0 : DataW.trod enc Tryz.prog w base spare held k 3 [c0] = xs[0]? := by simpa [k0] using h5 0 _ rfl
        have f1 : DataW.trod enc Tryz.prog w base spare held k 3 [c1] = xs[1]? := by simpa [k0] using h5 1 _ rfl
        have f2 : DataW.trod enc Tryz.prog w base spare held k 9 [c2] = xs[2]? := by simpa [k2] using h5 2 _ rfl
        have f3 : DataW.trod enc Tryz.prog w base spare held k 9 [c3] = xs[3]? := by simpa [k2] using h5 3 _ rfl
        have f4 : DataW.trod enc Tryz.prog w base spare held k 24 [c4] = xs[4]? := by simpa [k4] using h5 4 _ rfl
        rw [List.getElem?_eq_getElem (by omega)] at f0 f1 f2 f3 f4
        obtain ⟨z0, e0, -, w0⟩ := DataW.trod_int Tryz.underlying3 f0
        obtain ⟨z1, e1, -, w1⟩ := DataW.trod_int Tryz.underlying3 f1
        obtain ⟨s2, e2, -, w2⟩ := DataW.trod_string Tryz.underlying9 f2
        obtain ⟨s3, e3, -, w3⟩ := DataW.trod_string Tryz.underlying9 f3
        obtain ⟨v4, l4, e4, w4, w5⟩ := in_bytes Tryz.underlying24 Tryz.underlying5 (by kernel_rfl) f4
        simp only [List.cons.injEq, and_true] at e0 e1 e2 e3 e4
        subst e0 e1 e2 e3 e4
        have ha := hpl i hi
        rw [ha] at g0 g1 g2 g3 g4
        rw [Addr.add_lit, Addr.add_lit] at g0 g1 g2 g3 g4
        obtain ⟨da, dc, ed⟩ := Bytes.slice w4
        subst ed
        refine ⟨⟨z0, z1, s2.data.toList, s3.data.toList, l4⟩, ⟨int_of_wf w0, int_of_wf w1, w2, w3, w5⟩, a.block, a.off, ha, da, dc, ?_, ?_, ?_, ?_, ?_, w4⟩
        · exact g0
        · exact g1
        · have : s2 = bstr s2.data.toList := by unfold bstr; simp
          rw [← this]; exact g2
        · have : s3 = bstr s3.data.toList := by unfold bstr; simp
          rw [← this]; exact g3
        · exact g4
    obtain ⟨l, hl1, hl2⟩ := list_choose (p := fun (i : Nat) (y : Deed) => y.ok ∧ ∃ b o, a = ⟨b, o, none⟩ ∧ DeedAt w b (o + i * 5) y) (List.range len) (fun i u hu => by
      have hi := (List.getElem?_eq_some_iff.1 hu).1
      rw [List.length_range] at hi
      rw [List.getElem?_range hi] at hu
      cases hu
      exact one i hi)
    rw [List.length_range] at hl1
    refine ⟨_, l, rfl, ⟨some a, cap, by rw [hl1], by rw [hl1]; exact hl, fun j y hj => ?_⟩, by omega⟩
    have hjl : j < len := by have := (List.getElem?_eq_some_iff.1 hj).1; omega
    obtain ⟨ok, b, o, e1, e2⟩ := hl2 j j y (List.getElem?_range hjl) hj
    exact ⟨ok, b, o, by rw [e1], e2⟩
end
end Go.Proofs.YthkbbcdnmdjhdaaGreat
/-! XDkL: Room: are deeds few and small? -/
namespace Go.Proofs.YthkbbcdnmdjhdaaGreat
open Go.RowKit Dk
set_option maxRecDepth 100000
set_option maxHeartbeats 4000000
attribute [local go_sem] min_int2 max_int2 bstr_toList

def Deed.small (x : Deed) : Prop := x.a.length ≤ 1000 ∧ x.b.length ≤ 1000 ∧ x.data.length ≤ 5000
theorem room_any (v : Value) (l : List Deed) (m : Nat) (d : Bool) (hm : m ≤ 1000) (hd : d = true ↔ (l.length ≤ m ∧ ∀ x ∈ l, x.small)) (hl : l.length ≤ maxLen) (w : World) (hV : Deeds w v l) :
    Calls Tryz.prog 28 #[v, .int .i64 m] w fun e w' => e = .returned (.bool d) ∧ w = w' := by
  obtain ⟨a, c, rfl⟩ := hV.form
  have HV := Lib.hid hV
  have HD := Lib.hid hd
  unfold maxLen at hl
  clear hV hd
  go_enter Tryz.func28, Tryz.ntmps28
  by_cases h0 : l.length ≤ m
  case neg =>
    have q1 : (m : Int) < (l.length : Int) := by omega
    have hdf : d = false := by
      cases d
      · rfl
      · exact absurd (HD.out.1 rfl).1 h0
    subst hdf
    clear h0
    go_wp2_with fail
    go_ret
    exact ⟨rfl, rfl⟩
  have q1 : (l.length : Int) ≤ (m : Int) := by omega
  go_wp2_with fail
  go_loop [5] (fun v5 => ∃ i : Nat, i ≤ l.length ∧ v5 = .int .i64 i ∧ Hid (∀ j x, j < i → l[j]? = some x → x.small)) (fun v5 => (l.length - intOf v5).toNat)
  case atStart => exact ⟨0, by omega, rfl, Lib.hid fun j x h => by omega⟩
  case round =>
    obtain ⟨i, hi, rfl, hJ⟩ := hrel
    by_cases hlt : i < l.length
    · have hlt' : (i : Int) < (l.length : Int) := by omega
      have hx : l[i]? = some l[i] := List.getElem?_eq_getElem hlt
      obtain ⟨x, hxx⟩ : ∃ x, l[i] = x := ⟨_, rfl⟩
      rw [hxx] at hx
      obtain ⟨ok, b, o, rfl, da, dc, c0, c1, c2, c3, c4, -⟩ := HV.out.at hx
      obtain ⟨xd, xn, xa, xb, xt⟩ := x
      obtain ⟨-, -, k1, k2, k3⟩ := ok
      simp only at c2 c3 c4 k1 k2 k3
      unfold maxLen at k1 k2 k3
      have HX := Lib.hid hx
      have sa : (bstr xa).size = xa.length := rfl
      have sb : (bstr xb).size = xb.length := rfl
      clear hx hxx
      by_cases hs : xa.length ≤ 1000 ∧ xb.length ≤ 1000 ∧ xt.length ≤ 5000
      · have r1 : (xa.length : Int) ≤ 1000 := by omega
        have r2 : (xb.length : Int) ≤ 1000 := by omega
        have r3 : (xt.length : Int) ≤ 5000 := by omega
        have HS := Lib.hid hs
        clear hs
        go_wp2_with fail
        exact ⟨⟨i + 1, by omega, by go_num, Lib.hid fun j y hj hy => by
          by_cases e : j = i
          · subst e
            rw [HX.out] at hy
            cases hy
            exact HS.out
          · exact hJ.out j y (by omega) hy⟩, by simp [intOf]; omega⟩
      · have hdf : d = false := by
          cases d
          · rfl
          · exact absurd ((HD.out.1 rfl).2 _ (List.mem_of_getElem? HX.out)) hs
        subst hdf
        by_cases ha : xa.length ≤ 1000
        · have r1 : (xa.length : Int) ≤ 1000 := by omega
          by_cases hb : xb.length ≤ 1000
          · have r2 : (xb.length : Int) ≤ 1000 := by omega
            have r3 : (5000 : Int) < (xt.length : Int) := by omega
            clear hs
            go_wp2_with fail
            go_ret
            exact ⟨rfl, rfl⟩
          · have r2 : (1000 : Int) < (xb.length : Int) := by omega
            clear hs
            go_wp2_with fail
            go_ret
            exact ⟨rfl, rfl⟩
        · have r1 : (1000 : Int) < (xa.length : Int) := by omega
          clear hs
          go_wp2_with fail
          go_ret
          exact ⟨rfl, rfl⟩
    · have hdt : d = true := HD.out.2 ⟨h0, fun x hx => by
        obtain ⟨j, hj⟩ := List.getElem?_of_mem hx
        exact hJ.out j x (by have := (List.getElem?_eq_some_iff.1 hj).1; omega) hj⟩
      subst hdt
      clear hJ
      go_wp2_with fail
      go_ret
      exact ⟨rfl, rfl⟩
end Go.Proofs.YthkbbcdnmdjhdaaGreat
/-! XDkM: DiskFuse. -/
namespace Go.Proofs.YthkbbcdnmdjhdaaGreat
open Go.RowKit Dk
set_option maxRecDepth 100000
set_option maxHeartbeats 4000000
attribute [local go_sem] min_int2 max_int2 bstr_toList

/-- A disk on which at most x was written. -/
def FGood (d : DS) : Prop := d.most = 9000 ∧ d.off = false ∧ d.bad = 0 ∧ (d.fs = [] ∨ ∃ f, d.fs = [([120], f)] ∧ f.b.length ≤ 5000)
theorem fgood_write {d : DS} (h : FGood d) (k dn : Nat) (hb : ¬ (0 < k ∧ k ≤ dn)) {b : List UInt8} (hl : b.length ≤ 5000) :
    ∃ d', writes (some ⟨k, dn, decide (0 < k ∧ k ≤ dn)⟩) d [120] b = (0, some ⟨k, dn + 1, decide (0 < k ∧ k ≤ dn + 1)⟩, d') ∧ FGood d' := by
  obtain ⟨mo, of, ba, fs⟩ := d
  obtain ⟨rfl, rfl, rfl, hfs⟩ := h
  have hbd : decide (0 < k ∧ k ≤ dn) = false := decide_eq_false hb
  have hbg : ∀ fs, begins (some ⟨k, dn, false⟩) ⟨9000, false, 0, fs⟩ [[120]] = (0, some ⟨k, dn + 1, decide (0 < k ∧ k ≤ dn + 1)⟩, ⟨9000, false, 0, fs⟩) := fun fs => by
    have e : decide (0 < (k : Int) ∧ (k : Int) ≤ (dn : Int) + 1) = decide (0 < k ∧ k ≤ dn + 1) := by
      by_cases c : 0 < k ∧ k ≤ dn + 1
      · rw [decide_eq_true c, decide_eq_true (by omega)]
      · rw [decide_eq_false c, decide_eq_false (by omega)]
    show (0, some (FS.mk _ _ (decide (0 < (k : Int) ∧ (k : Int) ≤ (dn : Int) + 1))), _) = _
    rw [e]
  rw [hbd]
  refine ⟨⟨9000, false, 0, [([120], ⟨b, false⟩)]⟩, ?_, rfl, rfl, rfl, .inr ⟨_, rfl, hl⟩⟩
  unfold writes
  rw [hbg]
  rcases hfs with hfs | ⟨f, hfs, hf⟩
  · have hfs : fs = [] := hfs
    subst hfs
    rw [if_neg (by simp), if_neg (by omega), if_neg]
    · rfl
    · show ¬ (9000 + 0 < 0 + b.length ∨ 4096 < 1); omega
  · have hfs : fs = [([120], f)] := hfs
    subst hfs
    rw [if_neg (by simp), if_neg (by omega), if_neg]
    · rfl
    · show ¬ (9000 + f.b.length < f.b.length + 0 + b.length ∨ 4096 < 1); omega
theorem fgood_blown {d : DS} (k dn : Nat) (hb : 0 < k ∧ k ≤ dn) (b : List UInt8) :
    writes (some ⟨k, dn, decide (0 < k ∧ k ≤ dn)⟩) d [120] b = (20, some ⟨k, dn, decide (0 < k ∧ k ≤ dn)⟩, d) := by
  rw [decide_eq_true hb]; rfl
theorem fgood_tot {d : DS} (h : FGood d) : tot d.fs ≤ 5000 ∧ d.fs.length ≤ 1 := by
  rcases h.2.2.2 with h | ⟨f, h, hf⟩
  · rw [h]; exact ⟨by show 0 ≤ 5000; omega, by simp⟩
  · rw [h]; exact ⟨by show f.b.length + 0 ≤ 5000; omega, by simp⟩
theorem fgood_y {d : DS} (h : FGood d) : ∃ d', writes (some ⟨0, 0, false⟩) d [121] [] = (0, some ⟨0, 1, false⟩, d') := by
  obtain ⟨mo, of, ba, fs⟩ := d
  obtain ⟨rfl, rfl, rfl, hfs⟩ := h
  rcases hfs with hfs | ⟨f, hfs, hf⟩
  · have hfs : fs = [] := hfs
    subst hfs
    exact ⟨_, by unfold writes; rw [if_neg (by decide), if_neg (by decide), if_neg (by decide)]; rfl⟩
  · have hfs : fs = [([120], f)] := hfs
    subst hfs
    refine ⟨⟨9000, false, 0, [([120], f), ([121], ⟨[], false⟩)]⟩, ?_⟩
    have hb : begins (some ⟨0, 0, false⟩) ⟨9000, false, 0, [([120], f)]⟩ [[121]] = (0, some ⟨0, 1, false⟩, ⟨9000, false, 0, [([120], f)]⟩) := rfl
    unfold writes
    rw [hb, if_neg (by simp), if_neg (by simp), if_neg]
    · rfl
    · show ¬ (9000 + 0 < f.b.length + 0 + 0 ∨ 4096 < 2); omega
/-- Two disks with one fuse. -/
structure FInv (w wr : World) (f sa sb k dn : Nat) (dA dB : DS) (SA SB : Nat → Prop) : Prop where
  hz : FzAt wr (some f) (some ⟨k, dn, decide (0 < k ∧ k ≤ dn)⟩)
  ha : SimAt wr sa (some f) dA SA
  hb : SimAt wr sb (some f) dB SB
  ga : FGood dA
  gb : FGood dB
  dj : ∀ b, SA b → ¬ SB b
  ba : ∀ b, SA b → w.heap.size ≤ b
  bb : ∀ b, SB b → w.heap.size ≤ b
  bf : w.heap.size ≤ f
  ex : Ext w wr
theorem FInv.flip {w wr : World} {f sa sb k dn : Nat} {dA dB : DS} {SA SB : Nat → Prop} (h : FInv w wr f sa sb k dn dA dB SA SB) : FInv w wr f sb sa k dn dB dA SB SA :=
  ⟨h.hz, h.hb, h.ha, h.gb, h.ga, fun b hb ha => h.dj b ha hb, h.bb, h.ba, h.bf, h.ex⟩
theorem SimAt.fuse {w : World} {s : Nat} {fp : Option Nat} {d : DS} {S : Nat → Prop} (h : SimAt w s fp d S) : ∀ b, fp = some b → ¬ S b := by obtain ⟨_, _, _, _, _, h4⟩ := h; exact h4
theorem SimAt.lt {w : World} {s : Nat} {fp : Option Nat} {d : DS} {S : Nat → Prop} (h : SimAt w s fp d S) : ∀ b, S b → b < w.heap.size := by obtain ⟨_, _, _, _, h3, _⟩ := h; exact h3
/-- A write on the first of them. -/
theorem FInv.write {w wr w' : World} {f sa sb k dn dn' : Nat} {dA dB dA' : DS} {SA SB : Nat → Prop} (h : FInv w wr f sa sb k dn dA dB SA SB) (hg : FGood dA')
    (hz : FzAt w' (some f) (some ⟨k, dn', decide (0 < k ∧ k ≤ dn')⟩)) (ha : SimAt w' sa (some f) dA' (Grow SA wr w')) (hc : Chg (fun b => SA b ∨ some f = some b) wr w') : FInv w w' f sa sb k dn' dA' dB (Grow SA wr w') SB :=
  ⟨hz, ha, h.hb.chg hc (fun b hb hx => by
    rcases hx with hx | hx
    · exact h.dj b hx hb
    · exact h.hb.fuse b hx hb), hg, h.gb, fun b hx hb => by
    rcases hx with hx | hx
    · exact h.dj b hx hb
    · have := h.hb.lt b hb; omega, fun b hx => hx.elim (h.ba b) fun hx => Nat.le_trans h.ex.size hx.1, h.bb, h.bf, Chg.after2 h.ex hc (fun b hx => by
    rcases hx with hx | hx
    · exact h.ba b hx
    · cases hx; exact h.bf)⟩
end Go.Proofs.YthkbbcdnmdjhdaaGreat
/-! XDkN: Look, Room, Offline, Fail, Wipe. -/
namespace Go.Proofs.YthkbbcdnmdjhdaaGreat
open Go.RowKit Dk Go.WideShapes Go.ChangeMaps Go.MapKept
set_option maxRecDepth 100000
set_option maxHeartbeats 4000000
attribute [local go_sem] min_int2 max_int2 bstr_toList

theorem SimAt.lt' {w : World} {s : Nat} {fp : Option Nat} {d : DS} {S : Nat → Prop} (h : SimAt w s fp d S) : ∀ b, S b → b < w.heap.size := by obtain ⟨_, _, _, _, h3, _⟩ := h; exact h3
def LookOut (w : World) (d : DS) (p : Path) (e : Ending) (w' : World) : Prop :=
  ∃ u, e = .returned (.tuple #[u, .bool (match get p d.fs with | some f => f.sure | none => false), .bool (get p d.fs).isSome]) ∧ Own w' w.heap.size 5 u (bvs (match get p d.fs with | some f => f.b | none => [])) ∧ Ext w w'
theorem look_any (s : Nat) (fp : Option Nat) (d : DS) (S : Nat → Prop) (p : Path) (w : World) (h : SimAt w s fp d S) (hp : p.length ≤ maxLen) (ht : tot d.fs ≤ 1099511627776) :
    Calls Tryz.prog 47 #[.pointer (some ⟨s, 0, none⟩), .string (bstr p)] w (LookOut w d p) := by
  obtain ⟨m, es, h, -, -, -⟩ := h
  have c2 := h.row.cell (i := 2) (v := .map (some m)) rfl
  have hl := h.map.look p hp
  rw [qs_get] at hl
  cases hx : get p es with
  | none =>
    rw [hx] at hl
    have hf : get p d.fs = none := by rw [h.fs, fils_get, hx]; rfl
    have HF := Lib.hid hf
    clear hx hf h
    go_enter Tryz.func47, Tryz.ntmps47
    go_wp2_with fail
    go_ret3
    exact ⟨_, by rw [HF.out]; rfl, by rw [HF.out]; exact Own.nil _ _ _, Ext.refl _⟩
  | some x =>
    rw [hx] at hl
    have hf : get p d.fs = some x.f := by rw [h.fs, fils_get, hx]; rfl
    have hfile := h.file _ (get_mem hx)
    have c3 := hfile.1.cell (i := 0) (v := x.v) rfl
    have c4 := hfile.1.cell (i := 1) (v := .bool x.f.sure) rfl
    obtain ⟨xa, xc, hv⟩ := Own.slice' hfile.2
    rw [bvs_len] at hv
    have hlen : x.f.b.length ≤ 140737488351232 := by
      have h1 := tot_mem (l := d.fs) (e := (p, x.f)) (get_mem hf)
      have h2 : x.f.b.length ≤ tot d.fs := h1
      omega
    have HC := Lib.hid (And.intro hfile.2.cells hlen)
    rw [hv] at c3 HC
    have HF := Lib.hid hf
    clear hx hf h hfile hv hlen
    go_enter Tryz.func47, Tryz.ntmps47
    go_wp2_with fail
    have x0 : Ext w w.drew := Ext.of_drawn _ 1
    have S0 : (fun w' : World => w'.cell? ⟨x.q, 0, none⟩ = some (.slice xa x.f.b.length xc) ∧ w'.cell? ⟨x.q, 1, none⟩ = some (.bool x.f.sure)) w.drew := ⟨c3, c4⟩
    have CL : ∀ W, Ext w W → Calls Tryz.prog 85 #[.slice xa x.f.b.length xc] W fun e w5 => ∃ ua uc, e = .returned (.slice ua x.f.b.length uc) ∧ Hid (Own w5 w.heap.size 5 (.slice ua x.f.b.length uc) (bvs x.f.b) ∧ Ext w w5) ∧ (fun w' : World => w'.cell? ⟨x.q, 0, none⟩ = some (.slice xa x.f.b.length xc) ∧ w'.cell? ⟨x.q, 1, none⟩ = some (.bool x.f.sure)) w5 := fun W hW =>
      (bclone_own _ x.f.b HC.out.2 W (Cells.ext HC.out.1 hW)).mono fun e w5 ⟨u, h1, h2, h3⟩ => by
        obtain ⟨ua, uc, hu⟩ := Own.slice' h2
        rw [bvs_len] at hu
        subst hu
        exact ⟨ua, uc, h1, Lib.hid ⟨h2.mono hW.size, Ext.trans hW h3⟩, Ext.cell (Ext.trans hW h3) c3, Ext.cell (Ext.trans hW h3) c4⟩
    have CLH := Lib.hid CL
    clear CL
    go_region_held3 (fun w' : World => w'.cell? ⟨x.q, 0, none⟩ = some (.slice xa x.f.b.length xc) ∧ w'.cell? ⟨x.q, 1, none⟩ = some (.bool x.f.sure)) (first | assumption) (first | (go_at_call 85; refine (CLH.out _ x0).mono ?_; rintro e w5 ⟨ua, uc, rfl, hU, hS5⟩))
    clear S0 c3 c4 hS5
    go_wp2_with fail
    go_ret3
    exact ⟨_, by rw [HF.out]; rfl, by rw [HF.out]; exact hU.out.1, hU.out.2⟩
theorem FMap.clear {w : World} {m : Nat} {l : L Nat} (h : FMap w m l) (ty : TypeId) :
    ∃ w', (Builtin.clear_ #[112] ty #[.map (some m)]).run Tryz.prog w = .ok (.tuple #[]) w' ∧ FMap w' m [] ∧ w.grownBy w' (some m) ∧ w'.heap.size = w.heap.size := by
  obtain ⟨es, clock, hb, F, hs, hD⟩ := h
  refine ⟨setBlock w m (.map #[] clock), ?_, ⟨#[], clock, (heap_set hb).1, ⟨by simp, stamped_empty clock, by simp⟩, Nat.le_refl _, rfl⟩, ⟨rfl, rfl, rfl, by simp [setBlock], fun k _ hk => (heap_set hb).2 k (fun e => hk (by rw [e]))⟩, by simp [setBlock]⟩
  simp [Builtin.clear_, run_underlying Tryz.underlying112, MapKept.run_getObj_map hb, MapKept.run_setObj_map _ hb, Result.andThen, setBlock]
theorem wipe_any (s : Nat) (fp : Option Nat) (d : DS) (S : Nat → Prop) (w : World) (h : SimAt w s fp d S) :
    Calls Tryz.prog 111 #[.pointer (some ⟨s, 0, none⟩)] w fun e w' => e = .returned (.tuple #[]) ∧ SimAt w' s fp { d with fs := [] } S ∧ Chg S w w' := by
  obtain ⟨m, es, h, hS1, hS2, hS3⟩ := h
  have c2 := h.row.cell (i := 2) (v := .map (some m)) rfl
  obtain ⟨w1, hrun, hm, hg, -⟩ := h.map.clear 0
  have hc : Chg (fun b => b = m) w w1 := (Chg.refl _ w).grown hg (fun k hk => .inl (Option.some.inj hk).symm)
  have hr := h.remap (es' := []) hc hm Up.nil (by simp) (by simp)
  have hR := Lib.hid (And.intro hr (And.intro (show ∀ b, Foot s m [] b → S b from fun b hb => by
    rcases hb with hb | hb | ⟨e, he, -⟩
    · exact hS1 b (.inl hb)
    · exact hS1 b (.inr (.inl hb))
    · cases he) (And.intro (show ∀ b, S b → b < w1.heap.size from fun b hb => Nat.lt_of_lt_of_le (hS2 b hb) hc.size) (And.intro hS3 (hc.mono (T := S) fun b _ hb => by rw [hb]; exact hS1 _ (.inr (.inl rfl)))))))
  clear h hm hg hc hr hS1 hS2 hS3
  go_enter Tryz.func111, Tryz.ntmps111
  go_wp2_with fail
  go_end0
  exact ⟨rfl, ⟨m, [], hR.out.1, hR.out.2.1, hR.out.2.2.1, hR.out.2.2.2.1⟩, hR.out.2.2.2.2⟩
theorem offline_any (s : Nat) (fp : Option Nat) (d : DS) (S : Nat → Prop) (b : Bool) (w : World) (h : SimAt w s fp d S) :
    Calls Tryz.prog 18 #[.pointer (some ⟨s, 0, none⟩), .bool b] w fun e w' => e = .returned (.tuple #[]) ∧ SimAt w' s fp { d with off := b } S ∧ Chg S w w' := by
  obtain ⟨m, es, h, hS1, hS2, hS3⟩ := h
  have c3 := h.row.cell (i := 3) (v := .bool d.off) rfl
  have u3 := h.row.unfrozen 3
  have r2 := h.row.set 3 (.bool b)
  have hr := h.own (d' := { d with off := b }) 3 (.bool b) (by simpa using r2) rfl h.nb h.nm
  have hc : Chg S w (w.setCell ⟨s, 3, none⟩ (.bool b)) := (Chg.refl S w).at s 3 (.inl (hS1 _ (.inl rfl))) _
  have HN := Lib.hid (And.intro (show SimAt (w.setCell ⟨s, 3, none⟩ (.bool b)) s fp { d with off := b } S from ⟨m, es, hr, hS1, fun b hb => Nat.lt_of_lt_of_le (hS2 b hb) hc.size, hS3⟩) hc)
  clear h hS1 hS2 hS3 r2 hr hc
  go_enter Tryz.func18, Tryz.ntmps18
  go_wp2_with fail
  go_end0
  exact ⟨rfl, HN.out.1, HN.out.2⟩
theorem fail_any (s : Nat) (fp : Option Nat) (d : DS) (S : Nat → Prop) (n : Int) (hn : n ≤ 9223372036854775807) (w : World) (h : SimAt w s fp d S) :
    Calls Tryz.prog 13 #[.pointer (some ⟨s, 0, none⟩), .int .i64 n] w fun e w' => e = .returned (.tuple #[]) ∧ SimAt w' s fp { d with bad := n.toNat } S ∧ Chg S w w' := by
  obtain ⟨m, es, h, hS1, hS2, hS3⟩ := h
  obtain ⟨k, hk⟩ : ∃ k, n.toNat = k := ⟨_, rfl⟩
  have hmx : max n 0 = (k : Int) := by omega
  rw [hk]
  have c4 := h.row.cell (i := 4) (v := .int .i64 d.bad) rfl
  have u4 := h.row.unfrozen 4
  have r2 := h.row.set 4 (.int .i64 (k : Int))
  have hr := h.own (d' := { d with bad := k }) 4 (.int .i64 (k : Int)) (by simpa using r2) rfl (by show k ≤ _; omega) h.nm
  have hc : Chg S w (w.setCell ⟨s, 4, none⟩ (.int .i64 (k : Int))) := (Chg.refl S w).at s 4 (.inl (hS1 _ (.inl rfl))) _
  have HN := Lib.hid (And.intro (show SimAt (w.setCell ⟨s, 4, none⟩ (.int .i64 (k : Int))) s fp { d with bad := k } S from ⟨m, es, hr, hS1, fun b hb => Nat.lt_of_lt_of_le (hS2 b hb) hc.size, hS3⟩) hc)
  clear h hS1 hS2 hS3 r2 hr hc hk
  go_enter Tryz.func13, Tryz.ntmps13
  go_wp2_with fail
  go_end0
  exact ⟨rfl, HN.out.1, HN.out.2⟩
theorem sroom_any (s : Nat) (fp : Option Nat) (d : DS) (S : Nat → Prop) (w : World) (h : SimAt w s fp d S) (ht : tot d.fs ≤ 1099511627776) :
    Calls Tryz.prog 114 #[.pointer (some ⟨s, 0, none⟩)] w fun e w' => e = .returned (.int .i64 ((d.most : Int) - tot d.fs)) ∧ Ext w w' := by
  obtain ⟨m, es, h, -, -, -⟩ := h
  have H := Lib.hid h
  have c0 := h.row.cell (i := 0) (v := .int .i64 d.most) rfl
  have hm := h.nm
  obtain ⟨M, hM⟩ : ∃ M, d.most = M := ⟨_, rfl⟩
  obtain ⟨T, hT⟩ : ∃ T, tot d.fs = T := ⟨_, rfl⟩
  have USED : ∀ W, Ext w W → Calls Tryz.prog 84 #[.pointer (some ⟨s, 0, none⟩)] W fun e w' => e = .returned (.int .i64 (T : Int)) ∧ Hid (Ext w w') ∧ w'.cell? ⟨s, 0, none⟩ = some (.int .i64 (M : Int)) := fun W hW =>
    (used_any s m fp es d W (H.out.chg (Chg.of_ext hW (fun _ => False)) (fun _ _ h => h)) ht).mono fun e w' ⟨h1, h2⟩ => ⟨by rw [h1, hT], Lib.hid (Ext.trans hW h2), by
      have := (H.out.chg (Chg.of_ext (Ext.trans hW h2) (fun _ => False)) (fun _ _ h => h)).row.cell (i := 0) (v := .int .i64 d.most) rfl
      rw [hM] at this
      exact this⟩
  have USE := Lib.hid USED
  rw [hM] at c0 hm ⊢
  rw [hT] at ht ⊢
  have x0 : Ext w w.drew := Ext.of_drawn _ 1
  have c0d : w.drew.cell? ⟨s, 0, none⟩ = some (.int .i64 (M : Int)) := c0
  have e1 : IntKind.i64.wrap ((M : Int) - (T : Int)) = (M : Int) - (T : Int) := by rw [IntKind.wrap_i64]; omega
  clear USED hM hT h
  go_enter Tryz.func114, Tryz.ntmps114
  go_wp2_with fail
  go_region_held3 (fun w' : World => w'.cell? ⟨s, 0, none⟩ = some (.int .i64 (M : Int))) (assumption) (first | (go_at_call 84; refine (USE.out _ x0).mono ?_; rintro e w4 ⟨rfl, hx4, c4⟩))
  go_wp2_with fail
  go_ret
  exact ⟨rfl, hx4.out⟩
end Go.Proofs.YthkbbcdnmdjhdaaGreat
/-! XDkO: List of a disk that is off. -/
namespace Go.Proofs.YthkbbcdnmdjhdaaGreat
open Go.RowKit Dk Go.WideShapes Go.ChangeMaps Go.MapKept
set_option maxRecDepth 100000
set_option maxHeartbeats 4000000
attribute [local go_sem] min_int2 max_int2 bstr_toList

theorem list_off (s : Nat) (d : DS) (S : Nat → Prop) (p : Path) (w : World) (h : SimAt w s none d S) (ho : d.off = true) :
    Calls Tryz.prog 109 #[.pointer (some ⟨s, 0, none⟩), .string (bstr p)] w fun e w' => e = .returned (.tuple #[.slice none 0 0, .int .i64 10]) ∧ SimAt w' s none d S ∧ Chg S w w' := by
  obtain ⟨x, hx⟩ : ∃ x, x = Row.new w 9 #[.string (bstr p)] := ⟨_, rfl⟩
  clear hx x
  have x1 : Ext w (w.alloc (.cells #[.string (bstr p)] 9)) := (Ext.refl w).alloc (Nat.le_refl _) _
  have X1 := Lib.hid (And.intro x1 (h.ext x1))
  have hb : begins none d [] = (10, none, d) := by unfold begins; rw [ho]; rfl
  clear h ho x1
  go_enter Tryz.func109, Tryz.ntmps109
  go_wp2_with fail
  obtain ⟨m, es, h, hS1, hS2, hS3⟩ := X1.out.2
  have HS := Lib.hid (And.intro hS1 (And.intro hS2 hS3))
  clear hS1 hS2 hS3
  refine (begin_any s m none none es d [] _ _ h trivial (by decide) (by simp) (by simp) (Own.nil _ _ _)).mono ?_
  rw [hb]; rintro e w2 ⟨rfl, -, h2, hg, -⟩
  have HN := Lib.hid (And.intro (show SimAt w2 s none d S from ⟨m, es, h2, HS.out.1, fun b hb => Nat.lt_of_lt_of_le (HS.out.2.1 b hb) hg.size, HS.out.2.2⟩) ((Chg.of_ext X1.out.1 S).trans (hg.mono fun b _ hb => by
    rcases hb with rfl | hb
    · exact HS.out.1 _ (.inl rfl)
    · cases hb)))
  clear h h2 hg hb
  go_wp2_with fail
  go_ret2
  exact ⟨rfl, HN.out.1, HN.out.2⟩
end Go.Proofs.YthkbbcdnmdjhdaaGreat
/-! XDkQ: DiskFails. -/
namespace Go.Proofs.YthkbbcdnmdjhdaaGreat
open Go.RowKit Dk
set_option maxRecDepth 100000
set_option maxHeartbeats 4000000
attribute [local go_sem] min_int2 max_int2 bstr_toList

def was : List UInt8 := [119, 97, 115]
/-- The disk behind i writes of y, where k were to fail. -/
def FState (k i : Nat) (d : DS) : Prop := d.most = 1000000 ∧ d.off = false ∧ d.bad = k - i ∧ (d.fs = [([120], ⟨was, false⟩)] ∨ (k < i ∧ ∃ f, d.fs = [([120], ⟨was, false⟩), ([121], f)] ∧ f.b.length ≤ 5000))
theorem fstate_io {k i : Nat} {d : DS} (h : FState k i d) (hi : i < k) (b : List UInt8) : ∃ d', writes none d [121] b = (9, none, d') ∧ FState k (i + 1) d' ∧ get [121] d'.fs = none := by
  obtain ⟨mo, of, ba, fs⟩ := d
  obtain ⟨rfl, rfl, hb, hf⟩ := h
  have hb : ba = k - i := hb
  obtain ⟨c, rfl⟩ : ∃ c, ba = c + 1 := ⟨k - i - 1, by omega⟩
  rcases hf with hf | ⟨hk, -⟩
  · have hf : fs = _ := hf
    subst hf
    exact ⟨⟨1000000, false, c, [([120], ⟨was, false⟩)]⟩, rfl, ⟨rfl, rfl, (by show c = k - (i + 1); omega), .inl rfl⟩, rfl⟩
  · omega
theorem fstate_ok {k i : Nat} {d : DS} (h : FState k i d) (hi : k ≤ i) {b : List UInt8} (hl : b.length ≤ 5000) : ∃ d', writes none d [121] b = (0, none, d') ∧ FState k (i + 1) d' ∧ get [121] d'.fs = some ⟨b, false⟩ := by
  obtain ⟨mo, of, ba, fs⟩ := d
  obtain ⟨rfl, rfl, hb, hf⟩ := h
  have hb : ba = k - i := hb
  obtain rfl : ba = 0 := by omega
  refine ⟨⟨1000000, false, 0, [([120], ⟨was, false⟩), ([121], ⟨b, false⟩)]⟩, ?_, ⟨rfl, rfl, (by show 0 = k - (i + 1); omega), .inr ⟨by omega, _, rfl, hl⟩⟩, rfl⟩
  have hbg : ∀ fs, begins none ⟨1000000, false, 0, fs⟩ [[121]] = (0, none, ⟨1000000, false, 0, fs⟩) := fun fs => rfl
  unfold writes
  rw [hbg, if_neg (by simp), if_neg (by omega)]
  rcases hf with hf | ⟨hk, f, hf, hfl⟩
  · have hf : fs = _ := hf
    subst hf
    rw [if_neg]
    · rfl
    · show ¬ (1000000 + 0 < 3 + 0 + b.length ∨ 4096 < 2); omega
  · have hf : fs = _ := hf
    subst hf
    rw [if_neg]
    · rfl
    · show ¬ (1000000 + f.b.length < 3 + (f.b.length + 0) + b.length ∨ 4096 < 2); omega
theorem fstate_tot {k i : Nat} {d : DS} (h : FState k i d) : tot d.fs ≤ 5003 ∧ d.fs.length ≤ 2 ∧ get [120] d.fs = some ⟨was, false⟩ := by
  rcases h.2.2.2 with h | ⟨-, f, h, hf⟩
  · rw [h]; exact ⟨by show 3 + 0 ≤ 5003; omega, by simp, rfl⟩
  · rw [h]; exact ⟨by show 3 + (f.b.length + 0) ≤ 5003; omega, by simp, rfl⟩
theorem off_begins {d : DS} (h : d.off = true) (ps : List Path) : begins none d ps = (10, none, d) := by unfold begins; rw [h]; rfl
theorem off_opens {d : DS} (h : d.off = true) (p : Path) (more : List Path) : opens none d p more = 10 := by unfold opens; rw [off_begins h]; rfl
theorem off_writes {d : DS} (h : d.off = true) (p : Path) (b : List UInt8) : writes none d p b = (10, none, d) := by unfold writes; rw [off_begins h]; rfl
theorem off_syncs {d : DS} (h : d.off = true) (p : Path) : syncs none d p = (10, none, d) := by unfold syncs; rw [off_opens h, off_begins h]; rfl
theorem off_renames {d : DS} (h : d.off = true) (p q : Path) : renames none d p q = (10, none, d) := by unfold renames; rw [off_opens h, off_begins h]; rfl
theorem off_deletes {d : DS} (h : d.off = true) (p : Path) : deletes none d p = (10, none, d) := by unfold deletes; rw [off_opens h, off_begins h]; rfl
theorem off_readb {d : DS} (h : d.off = true) (p : Path) : readb none d p = [] := by unfold readb; rw [off_opens h]; rfl
theorem on_read {d : DS} (h : d.off = false) (hb : d.bad = 0) (hx : get [120] d.fs = some ⟨was, false⟩) : opens none d [120] [] = 0 ∧ readb none d [120] = was ∧ begins none d [[120]] = (0, none, d) := by
  obtain ⟨mo, of, ba, fs⟩ := d
  obtain rfl : of = false := h
  obtain rfl : ba = 0 := hb
  have hbg : begins none ⟨mo, false, 0, fs⟩ [[120]] = (0, none, ⟨mo, false, 0, fs⟩) := rfl
  have hx : get [120] fs = _ := hx
  have ho : opens none ⟨mo, false, 0, fs⟩ [120] [] = 0 := by
    unfold opens
    rw [hbg]
    show (if 0 = 0 then (if (get [120] fs).isSome then 0 else 6) else 0) = 0
    rw [hx]; rfl
  refine ⟨ho, ?_, hbg⟩
  unfold readb
  rw [ho]
  show (match get [120] fs with | some f => f.b | none => []) = was
  rw [hx]
/-- The disk in a world behind w. -/
structure FL (w wr : World) (s : Nat) (d : DS) (S : Nat → Prop) : Prop where
  hs : SimAt wr s none d S
  hb : ∀ b, S b → w.heap.size ≤ b
  ex : Ext w wr
theorem FL.grow {w wr w' : World} {s : Nat} {d d' : DS} {S : Nat → Prop} (h : FL w wr s d S) (ha : SimAt w' s none d' (Grow S wr w')) (hc : Chg (fun b => S b ∨ none = some b) wr w') : FL w w' s d' (Grow S wr w') :=
  ⟨ha, fun b hx => hx.elim (h.hb b) fun hx => Nat.le_trans h.ex.size hx.1, Chg.after2 h.ex hc (fun b hx => by
    rcases hx with hx | hx
    · exact h.hb b hx
    · cases hx)⟩
theorem FL.same {w wr w' : World} {s : Nat} {d d' : DS} {S : Nat → Prop} (h : FL w wr s d S) (ha : SimAt w' s none d' S) (hc : Chg S wr w') : FL w w' s d' S := ⟨ha, h.hb, Chg.after2 h.ex hc h.hb⟩
theorem FL.ext {w wr w' : World} {s : Nat} {d : DS} {S : Nat → Prop} (h : FL w wr s d S) (x : Ext wr w') : FL w w' s d S := ⟨h.hs.ext x, h.hb, Ext.trans h.ex x⟩
theorem Chg.nof {S : Nat → Prop} {w w' : World} (h : Chg (fun b => S b ∨ (none : Option Nat) = some b) w w') : Chg S w w' := h.mono fun b _ hb => hb.elim id fun h => by cases h
theorem put_list {L : List Value} {d : List Deferred} {x : Option Nat} {j : Nat} (h : x = some j) (v : Value) : (⟨L.toArray, d⟩ : Act).put x v = ⟨(L.set j v).toArray, d⟩ := by subst h; simp [Act.put]
/-- Take a silent operation first; what it writes is told by its slot. -/
theorem wpU_pureL {P : Program} {md : Region.Mode} {ops : Array Oper} {Q : Exit → Act → World → Prop} {S : World → Prop} {k i j : Nat} {oi : Oper} {v : Value} {fuel : Nat} {listed : Array Bool} {L : List Value} {d : List Deferred} {w : World} (hi : ops[i]? = some oi) (hd : oi.dst = some j)
    (hs : Region.noSelect ops = true) (hf : Region.free md ops listed i = true) (hr : (Region.ready md ops listed).contains i = true) (hki : k ≠ i)
    (hQ : ∀ c a w, Q (.panic c) (a.put oi.dst v) w → Q (.panic c) a w) (hS : listed.getD k true = false → S w) (hy : YieldsIf P ops (fun _ => True) oi v ⟨L.toArray, d⟩)
    (h : wpU P md ops Q S k fuel (listed.setIfInBounds i true) ⟨(L.set j v).toArray, d⟩ w) : wpU P md ops Q S k (fuel + 1) listed ⟨L.toArray, d⟩ w :=
  wpU_pure hi hs hf hr hki hQ hS hy (by rw [put_list hd]; exact h)
end Go.Proofs.YthkbbcdnmdjhdaaGreat
/-! XDkR: DiskFails: the walk. -/
namespace Go.Proofs.YthkbbcdnmdjhdaaGreat
open Go.RowKit Dk
set_option maxRecDepth 100000
set_option maxHeartbeats 4000000
attribute [local go_sem] min_int2 max_int2 bstr_toList

end Go.Proofs.YthkbbcdnmdjhdaaGreat
/-! XDkS: Files: the walk, over what the sort does (SortOk). -/
namespace Go.Proofs.YthkbbcdnmdjhdaaGreat
open Go.RowKit Dk Go.WideShapes Go.ChangeMaps Go.MapKept
set_option maxRecDepth 100000
set_option maxHeartbeats 4000000
attribute [local go_sem] min_int2 max_int2 bstr_toList

theorem make_cap' {P : Program} (t e : TypeId) (z : Value) (bytes n c : Nat) (ht : P.underlying t = some (.slice e))
    (hi : (P.info? e).map (fun i => (i.zero, i.size, i.bytes)) = some (some z, 1, bytes)) (hz1 : z.cells = #[z]) (hnc : n ≤ c) (hb : bytes * c ≤ 281474976710656) (hn : c ≤ 9223372036854775807) (w : World) :
    (Instr.makeSlice t (.int .i64 (n : Int)) (.int .i64 (c : Int))).run P w = .ok (.slice (some ⟨w.heap.size, 0, none⟩) n c) (w.alloc (.cells (Array.replicate c z) e)) := by
  obtain ⟨i, hi, hz, hs, hby⟩ := info_parts hi
  have hb' : (i.bytes : Int) * (c : Int) ≤ 281474976710656 := by
    have h : ((i.bytes * c : Nat) : Int) ≤ 281474976710656 := by rw [hby]; omega
    rwa [Int.natCast_mul] at h
  rw [run_make (P := P) w t e i z ht hi hz .i64 .i64 n c (by omega) (by omega) hb' (by omega)]
  congr 4
  rw [hz1, hs, Nat.mul_one, Int.toNat_natCast]
  apply Array.ext
  · simp [madeCells]
  · intro k h1 h2
    simp [madeCells, Nat.mod_one]
theorem came_perm {α : Type} {left : Lit → Bool} {p : Path} {f : α} : ∀ {l : L α}, Up l → get p l = some f → left (.string p) = true → (paths (came (strike left p) l)).Perm (paths (came left l) ++ [p])
  | [], _, h, _ => by cases h
  | e :: l, hu, hg, hl => by
    rw [get_cons] at hg
    rw [came_cons, came_cons]
    by_cases he : e.1 = p
    · have hn : ∀ x ∈ l, x.1 ≠ p := fun x hx => by rw [← he]; exact (before_ne (hu.head _ hx)).symm
      have s1 : strike left p (.string e.1) = false := by unfold strike; rw [same_str, he]; simp
      rw [s1, if_neg (by simp), he, hl, if_pos rfl, came_strike_ne hn]
      show (e.1 :: paths (came left l)).Perm _
      rw [he]
      exact List.perm_append_comm (l₁ := [p])
    · rw [if_neg he] at hg
      have ih := came_perm hu.tail hg hl
      have s1 : strike left p (.string e.1) = left (.string e.1) := by
        unfold strike
        have : ((Lit.string e.1).sameKey (.string p)) = false := by rw [same_str]; simpa using he
        rw [this]; simp
      rw [s1]
      cases left (.string e.1) with
      | true => rw [if_pos rfl, if_pos rfl]; exact ih
      | false => rw [if_neg (by simp), if_neg (by simp)]; exact ih.cons e.1
theorem came_len {α : Type} {left : Lit → Bool} {l : L α} : (came left l).length ≤ l.length := List.length_filter_le _ _
/-- The row of paths as the sort leaves it. -/
def sortp (ps : List Path) : List Path := ps.mergeSort fun x y => !bytesBefore y x
theorem before_total (a b : Path) : (!bytesBefore b a || !bytesBefore a b) = true := by
  cases h1 : bytesBefore b a with
  | false => rfl
  | true =>
    cases h2 : bytesBefore a b with
    | false => rfl
    | true => rw [before_not h1] at h2; cases h2
/-- What sorting a row of strings of one's own does. -/
def SortOk : Prop := ∀ (w : World) (B : Nat) (v : Value) (ps : List Path), Own w B 9 v (pvs ps) → ps.length ≤ 5000 → Calls Tryz.prog 86 #[v, .func (.func 87) #[] #[]] w fun e w' =>
  e = .returned (.tuple #[]) ∧ Own w' B 9 v (pvs (sortp ps)) ∧ Chg (fun b => v.ownBlock = some b) w w'
end Go.Proofs.YthkbbcdnmdjhdaaGreat
/-! XDkT: Files: the walk. -/
namespace Go.Proofs.YthkbbcdnmdjhdaaGreat
open Go.RowKit Dk Go.WideShapes Go.ChangeMaps Go.MapKept
set_option maxRecDepth 100000
set_option maxHeartbeats 4000000
attribute [local go_sem] min_int2 max_int2 bstr_toList

theorem sortp_paths {α : Type} {l : L α} (hu : Up l) {ps : List Path} (hp : ps.Perm (paths l)) : sortp ps = paths l := by
  have tr : ∀ a b c : Path, (!bytesBefore b a) = true → (!bytesBefore c b) = true → (!bytesBefore c a) = true := fun a b c h1 h2 => by
    cases h3 : bytesBefore c a with
    | false => rfl
    | true =>
      by_cases e : a = b
      · subst e; rw [h3] at h2; cases h2
      · rcases WideAt.bytes_total a b e with h | h
        · rw [WideShapes.bytes_trans _ _ _ h3 h] at h2; cases h2
        · rw [h] at h1; cases h1
  have h1 := List.pairwise_mergeSort (le := fun x y : Path => !bytesBefore y x) tr (fun a b => before_total a b) ps
  have h2 : (paths l).Pairwise fun a b => (!bytesBefore b a) = true := List.pairwise_map.2 (hu.imp fun h => by rw [before_not h]; rfl)
  refine List.Perm.eq_of_pairwise ?_ h1 h2 ((List.mergeSort_perm _ _).trans hp)
  intro a b _ _ h3 h4
  by_cases e : a = b
  · exact e
  · rcases WideAt.bytes_total a b e with h | h
    · rw [h] at h4; cases h4
    · rw [h] at h3; cases h3
theorem FRange.own {w : World} {B m r : Nat} {e : TypeId} {v : Value} {cs : List Value} {l : L Nat} {left : Lit → Bool} {cnt : Nat} (h : FRange w m r l left cnt) (k : Own w B e v cs) : v.ownBlock ≠ some r := fun x => by
  rcases k.forms with ⟨rfl, _⟩ | ⟨g, cap, cur, rfl, _, hr, _⟩
  · cases x
  · exact h.ne hr (Option.some.inj x)
theorem Own.above {w : World} {B : Nat} {e : TypeId} {v : Value} {cs : List Value} (k : Own w B e v cs) (b : Nat) (x : v.ownBlock = some b) : B ≤ b := by
  rcases k.forms with ⟨rfl, _⟩ | ⟨g, cap, cur, rfl, hb, _⟩
  · cases x
  · cases x; exact hb
theorem files_some (hso : SortOk) (s m : Nat) (fp : Option Nat) (es : L Ent) (d : DS) (w : World) (h : Raw w s fp m es d) (hn : d.fs.length ≤ 4096) :
    Calls Tryz.prog 46 #[.pointer (some ⟨s, 0, none⟩)] w fun e w' => ∃ v, e = .returned v ∧ (∃ a c, v = .slice (some a) d.fs.length c) ∧ Own w' w.heap.size 9 v (pvs (paths d.fs)) ∧ Ext w w' := by
  have H := Lib.hid h
  have c2 := h.row.cell (i := 2) (v := .map (some m)) rfl
  have hlen := World.ownsMap.len h.map Tryz.underlying112 3
  have hle : (qs es).length = d.fs.length := by rw [h.fs]; simp [qs, fils, mapv_length]
  rw [Dm_size, hle] at hlen
  obtain ⟨n, hnn⟩ : ∃ n, d.fs.length = n := ⟨_, rfl⟩
  rw [hnn] at hlen hn
  have hmk := make_cap' (P := Tryz.prog) 29 9 (.string ByteArray.empty) 16 0 n Tryz.underlying29 info_str rfl (Nat.zero_le _) (by omega) (by omega)
  have hmkw : (Instr.makeSlice 29 (.int .i64 0) (.int .i64 (n : Int))).run Tryz.prog w = .ok (.slice (some ⟨w.heap.size, 0, none⟩) 0 n) (w.alloc (.cells (Array.replicate n (.string ByteArray.empty)) 9)) := hmk w
  have o0 : Own (w.alloc (.cells (Array.replicate n (.string ByteArray.empty)) 9)) w.heap.size 9 (.slice (some ⟨w.heap.size, 0, none⟩) 0 n) (pvs []) := by
    have hr := Row.new w 9 (Array.replicate n (.string ByteArray.empty))
    exact Own.mk (cs := []) (Nat.le_refl _) hr (Nat.zero_le _) (by simp) (by simp) (by unfold maxLen; omega)
  have x1 : Ext w (w.alloc (.cells (Array.replicate n (.string ByteArray.empty)) 9)) := (Ext.refl w).alloc (Nat.le_refl _) _
  obtain ⟨w1, hw1⟩ : ∃ w1, w.alloc (.cells (Array.replicate n (.string ByteArray.empty)) 9) = w1 := ⟨_, rfl⟩
  rw [hw1] at o0 x1 hmkw
  have h1 := h.chg (Chg.of_ext x1 (fun _ => False)) (fun _ _ h => h)
  have c21 := h1.row.cell (i := 2) (v := .map (some m)) rfl
  obtain ⟨w2, hrun, hR, hX, -⟩ := FRange.start h1.map
  obtain ⟨r, hr⟩ : ∃ r, w1.heap.size = r := ⟨_, rfl⟩
  rw [hr] at hrun hR
  have HR := Lib.hid (And.intro hR (And.intro (Own.ext o0 hX) (Ext.trans x1 hX)))
  have HRR : Hid (w.heap.size ≤ r) := Lib.hid (by rw [← hr]; exact x1.size)
  have HFS := Lib.hid h.fs
  have HU := Lib.hid (h.up.mapv (·.f))
  have hf0 : paths (came (allLeft (qs es)) d.fs) = [] := by
    rw [came_none]
    · rfl
    · intro e he
      rw [h.fs] at he
      obtain ⟨x, hx, rfl⟩ := List.mem_map.1 he
      rw [allLeft_iff, qs_get, get_of_mem h.up (x := x.2) (by exact hx)]; rfl
  have HF0 := Lib.hid hf0
  have HN := Lib.hid hnn
  obtain ⟨B, hB⟩ : ∃ B, w.heap.size = B := ⟨_, rfl⟩
  rw [hB] at hmkw o0 HR HRR ⊢
  have HB := Lib.hid hB
  clear h h1 hmk hR hX hr hf0 hle o0 x1 hnn hB
  go_enter Tryz.func46, Tryz.ntmps46
  go_wp2_with fail
  clear hrun c2 c21 hlen hmkw hw1
  go_loopw [3] (fun v3 wr => ∃ (left : Lit → Bool) (cnt : Nat) (ps : List Path) (a : Option Addr) (c : Nat), v3 = .slice a ps.length c ∧ a.isSome = true ∧ Hid (Own wr B 9 (.slice a ps.length c) (pvs ps) ∧ ps.Perm (paths (came left d.fs)) ∧ FRange wr m r (qs es) left cnt ∧ Ext w wr)) (fun _ wr => wr.rangeLeft m r)
  case atStart => exact ⟨_, _, [], _, _, rfl, rfl, Lib.hid ⟨HR.out.2.1, by rw [HF0.out], HR.out.1, HR.out.2.2⟩⟩
  case round =>
    obtain ⟨left, cnt, ps, a, c, rfl, hsome, HI⟩ := hrel
    have hml : wr.rangeLeft m r = cnt := World.ranges.left_eq HI.out.2.2.1
    have hpl : ps.length ≤ 4096 := by
      have e1 := HI.out.2.1.length_eq
      have e2 := came_len (left := left) (l := d.fs)
      have e3 := HN.out
      simp only [paths, List.length_map] at e1
      omega
    rcases HI.out.2.2.1.next 0 with ⟨hl, hrun⟩ | ⟨p, q, w2', cnt', hg, hl, hpl', hrun, hF2, hlt, hg2, hsz, hen⟩
    · have hpm := HI.out.2.1
      rw [came_all hl] at hpm
      have hsp := sortp_paths (by rw [HFS.out]; exact HU.out) hpm
      have hpl2 : ps.length = n := by
        have e1 := hpm.length_eq
        have e3 := HN.out
        simp only [paths, List.length_map] at e1
        omega
      have HPL := Lib.hid hpl2
      have HSP := Lib.hid hsp
      clear hl hml hpm hsp hpl2
      go_wp2_with fail
      refine (hso wr B _ ps HI.out.1 (by omega)).mono ?_; rintro e w5 ⟨rfl, ho, hg⟩
      rw [HSP.out] at ho
      have hx5 : Ext w w5 := Chg.after2 HI.out.2.2.2 hg (fun b hb => by rw [HB.out]; exact HI.out.1.above b hb)
      have HO := Lib.hid (And.intro ho hx5)
      clear ho hg hx5
      go_wp2_with fail
      go_ret
      obtain ⟨a0, ha0⟩ := Option.isSome_iff_exists.1 hsome
      exact ⟨.slice a ps.length c, rfl, ⟨a0, c, by rw [ha0, HPL.out, HN.out]⟩, HO.out.1, HO.out.2⟩
    · rw [qs_get] at hg
      cases hx : get p es with
      | none => rw [hx] at hg; cases hg
      | some x =>
        have hgf : get p d.fs = some x.f := by rw [HFS.out, fils_get, hx]; rfl
        have hst := came_perm (left := left) (by rw [HFS.out]; exact HU.out) hgf hl
        have oR := hF2.own (Own.chg HI.out.1 hg2 fun b hb e1 => HI.out.2.2.1.own HI.out.1 (by rw [hb, e1]))
        have o2 := Own.chg HI.out.1 hg2 fun b hb e1 => HI.out.2.2.1.own HI.out.1 (by rw [hb, e1])
        have x3 : Ext w2' (w2'.alloc (.cells #[.string (bstr p)] 9)) := (Ext.refl w2').alloc (Nat.le_refl _) _
        have hw2 : Ext w w2' := Chg.after2 HI.out.2.2.2 hg2 (fun b hb => by rw [hb, HB.out]; exact HRR.out)
        have hF3 : FRange (w2'.alloc (.cells #[.string (bstr p)] 9)) m r (qs es) (strike left p) cnt' := hF2.chg (Chg.of_ext x3 (fun _ => False)) (fun h => h) (fun h => h)
        have HA := Lib.hid (And.intro (Own.ext o2 x3) (And.intro (Strs.one w2' p) (And.intro (Ext.trans hw2 x3) (And.intro hF3 (Nat.le_trans hw2.size x3.size)))))
        have HP : Hid ((ps ++ [p]).Perm (paths (came (strike left p) d.fs))) := Lib.hid ((List.Perm.append_right [p] HI.out.2.1).trans hst.symm)
        have HLT := Lib.hid (And.intro hlt hml)
        clear hst hgf hx hg hl hpl' hF2 hlt hg2 hsz hml oR o2 x3 hw2 hF3
        go_wp2_with (at_builtin; refine list_of_wp rfl fun K hK => wp_appx _ _ 29 29 9 (.string ByteArray.empty) 16 rfl Tryz.underlying29 info_str rfl rfl HA.out.1 rfl (Cells.src Tryz.underlying29 (Own.cells HA.out.2.1) (pvs_one _)) (by simp [pvs, maxLen]; omega) (by simp [pvs]; omega) (by have := HA.out.2.2.2.2; rw [HB.out] at this; exact this) (ps.length + 1) (by simp [pvs]) fun ad c2 w4 ha => hK _ _ ?_)
        obtain ⟨ha1, ha2, -⟩ := ha
        have hc4 : Chg (fun b => (Value.slice a ps.length c).ownBlock = some b) _ w4 := (Chg.refl _ _).grown ha2 (fun k hk => .inl hk)
        have hF4 := HA.out.2.2.2.1.chg hc4 (fun h => HA.out.2.2.2.1.map.own HA.out.1 h) (fun h => HA.out.2.2.2.1.own HA.out.1 h)
        have hX4 := Chg.after2 HA.out.2.2.1 hc4 (fun b hb => by rw [HB.out]; exact HA.out.1.above b hb)
        have e4 : pvs ps ++ pvs [p] = pvs (ps ++ [p]) := by simp [pvs]
        rw [e4] at ha1
        have e5 : (ps ++ [p]).length = ps.length + 1 := by simp
        have HN4 := Lib.hid (And.intro (show Own w4 B 9 (.slice ad (ps ++ [p]).length c2) (pvs (ps ++ [p])) by rw [e5]; exact ha1) (And.intro HP.out (And.intro hF4 hX4)))
        have HE5 := Lib.hid e5
        clear ha1 ha2 hc4 hF4 hX4 e4 e5
        go_wp2_with fail
        have hsm : ad.isSome = true := by
          rcases HN4.out.1.forms with ⟨-, h2⟩ | ⟨g, cap, cur, h1, -⟩
          · exact absurd (congrArg List.length h2) (by simp [pvs])
          · simp only [Value.slice.injEq] at h1
            rw [h1.1]; rfl
        exact ⟨⟨_, _, ps ++ [p], ad, c2, by rw [HE5.out], hsm, HN4⟩, by rw [World.ranges.left_eq HN4.out.2.2.1, HLT.out.2]; exact HLT.out.1⟩
theorem files_any (hso : SortOk) (s m : Nat) (fp : Option Nat) (es : L Ent) (d : DS) (w : World) (h : Raw w s fp m es d) (hn : d.fs.length ≤ 4096) :
    Calls Tryz.prog 46 #[.pointer (some ⟨s, 0, none⟩)] w fun e w' => ∃ v, e = .returned v ∧ Own w' w.heap.size 9 v (pvs (paths d.fs)) ∧ Ext w w' :=
  (files_some hso s m fp es d w h hn).mono fun _ _ ⟨v, h1, _, h2, h3⟩ => ⟨v, h1, h2, h3⟩
end Go.Proofs.YthkbbcdnmdjhdaaGreat
