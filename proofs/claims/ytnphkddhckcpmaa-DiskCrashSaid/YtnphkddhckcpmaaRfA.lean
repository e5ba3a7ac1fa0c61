/-
  The reference's disk in memory; ask.
-/
import Derived.Test.YtnphkddhckcpmaaRfL
import Derived.Test.YtnphkddhckcpmaaRfP
import Derived.Test.YtnphkddhckcpmaaAppK
import Derived.Test.YtnphkddhckcpmaaHeld
import Derived.Deep.RegionHeld3
namespace Go.Proofs.Ytnphkddhckcpmaa
open Go.RowKit Dk
set_option maxRecDepth 100000
set_option maxHeartbeats 4000000
attribute [local go_sem] min_int2 max_int2 bstr_toList bstr_size

/-- A file of the reference in memory: its slice; what it is. -/
structure REnt where
  v : Value
  f : Fil
def rc (e : Path × REnt) : List Value := [.string (bstr e.1), e.2.v, .bool e.2.f.sure]
def rcells (es : L REnt) : List Value := es.flatMap rc
def rfils (es : L REnt) : L Fil := mapv (·.f) es
theorem rcells_nil : rcells [] = [] := rfl
theorem rcells_cons (e : Path × REnt) (es : L REnt) : rcells (e :: es) = rc e ++ rcells es := rfl
theorem rcells_append (a b : L REnt) : rcells (a ++ b) = rcells a ++ rcells b := List.flatMap_append
theorem rcells_length (es : L REnt) : (rcells es).length = es.length * 3 := by
  induction es with
  | nil => rfl
  | cons e es ih => rw [rcells_cons, List.length_append, ih, List.length_cons]; show 3 + _ = _; omega
theorem rcells_drop : ∀ (es : L REnt) (i : Nat), (rcells es).drop (i * 3) = rcells (es.drop i)
  | es, 0 => by simp
  | [], i + 1 => by simp [rcells]
  | e :: es, i + 1 => by
    rw [List.drop_succ_cons, ← rcells_drop es i, rcells_cons, show (i + 1) * 3 = 3 + i * 3 by omega, ← List.drop_drop]
    rfl
theorem rcells_take : ∀ (es : L REnt) (i : Nat), (rcells es).take (i * 3) = rcells (es.take i)
  | es, 0 => by simp [rcells]
  | [], i + 1 => by simp [rcells]
  | e :: es, i + 1 => by
    rw [List.take_succ_cons, rcells_cons, rcells_cons, ← rcells_take es i, show (i + 1) * 3 = 3 + i * 3 by omega]
    show List.take (3 + i * 3) (_ :: _ :: _ :: _) = _
    rw [show 3 + i * 3 = (i * 3) + 1 + 1 + 1 by omega]
    rfl
theorem rcells_get {es : L REnt} {i : Nat} (h : i < es.length) : (rcells es)[i * 3]? = some (.string (bstr es[i].1)) ∧ (rcells es)[i * 3 + 1]? = some es[i].2.v ∧ (rcells es)[i * 3 + 2]? = some (.bool es[i].2.f.sure) := by
  have h1 : (rcells es).drop (i * 3) = rc es[i] ++ rcells (es.drop (i + 1)) := by rw [rcells_drop, ← rcells_cons, List.getElem_cons_drop]
  have h2 : ∀ j, (rcells es)[i * 3 + j]? = (rc es[i] ++ rcells (es.drop (i + 1)))[j]? := fun j => by rw [← h1, List.getElem?_drop]
  exact ⟨h2 0, h2 1, h2 2⟩
theorem rcells_one (es : L REnt) (h : ∀ e ∈ es, e.2.v.oneCell' = true) : ∀ u ∈ rcells es, u.oneCell' = true := fun u hu => by
  obtain ⟨e, he, hu⟩ := List.mem_flatMap.1 hu
  unfold rc at hu
  simp only [List.mem_cons, List.not_mem_nil, or_false] at hu
  rcases hu with rfl | rfl | rfl
  · rfl
  · exact h e he
  · rfl
/-- The reference's disk in memory. -/
structure RRaw (w : World) (r : Nat) (rf : Option Nat) (lv : Value) (es : L REnt) (d : DS) : Prop where
  row : Row w r 93 #[lv, .int .i64 d.most, fptr rf, .bool d.off, .int .i64 d.bad]
  lst : OwnK w 0 103 3 lv es.length (rcells es)
  up : Up es
  file : ∀ e ∈ es, Own w 0 5 e.2.v (bvs e.2.f.b)
  fs : d.fs = rfils es
  nb : d.bad ≤ 9223372036854775807
  nm : d.most ≤ 4194304
  pl : ∀ e ∈ es, e.1.length ≤ 600
def RFoot (r : Nat) (lv : Value) (es : L REnt) (b : Nat) : Prop := b = r ∨ lv.ownBlock = some b ∨ ∃ e ∈ es, e.2.v.ownBlock = some b
def RefAt (w : World) (r : Nat) (rf : Option Nat) (d : DS) (S : Nat → Prop) : Prop := ∃ lv es, RRaw w r rf lv es d ∧ (∀ b, RFoot r lv es b → S b) ∧ (∀ b, S b → b < w.heap.size) ∧ (∀ b, rf = some b → ¬ S b)
/-- The reference's fuse in memory. -/
def RzAt (w : World) : Option Nat → Option FS → Prop
  | none, none => True
  | some b, some z => Row w b 70 #[.int .i64 z.n, .int .i64 z.ops, .bool z.blown] ∧ -9223372036854775808 ≤ z.n ∧ z.n ≤ 9223372036854775807
  | _, _ => False
theorem RzAt.chg {S : Nat → Prop} {w w' : World} {fp : Option Nat} {z : Option FS} (h : RzAt w fp z) (k : Chg S w w') (hn : ∀ b, fp = some b → ¬ S b) : RzAt w' fp z := by
  cases fp with
  | none => cases z with
    | none => trivial
    | some z => exact h
  | some b => cases z with
    | none => exact h
    | some z => exact ⟨h.1.chg k (hn b rfl), h.2⟩
theorem RzAt.lt {w : World} {fp : Option Nat} {z : Option FS} (h : RzAt w fp z) (b : Nat) (hb : fp = some b) : b < w.heap.size := by
  subst hb
  cases z with
  | none => exact h.elim
  | some z => exact h.1.lt
theorem rty1 : 93 ≠ 70 := by decide
theorem rty2 : 93 ≠ 103 := by decide
theorem rty3 : 93 ≠ 5 := by decide
theorem rty4 : 103 ≠ 5 := by decide
theorem rty5 : 103 ≠ 70 := by decide
theorem rty6 : 5 ≠ 70 := by decide
theorem rty7 : 9 ≠ 70 := by decide
theorem OwnK.ne {w : World} {B c k n : Nat} {e f : TypeId} {v : Value} {xs : List Value} {ds : Array Value} (h : OwnK w B e k v n xs) (hr : Row w c f ds) (hef : e ≠ f) : v.ownBlock ≠ some c := fun x => by
  obtain ⟨cur, h1⟩ := h.row x
  exact h1.ne hr hef rfl
section
variable {w w' : World} {r : Nat} {rf : Option Nat} {lv : Value} {es : L REnt} {d : DS} {S T : Nat → Prop}
theorem RRaw.foot_lt (h : RRaw w r rf lv es d) {b : Nat} (hb : RFoot r lv es b) : b < w.heap.size := by
  rcases hb with rfl | hb | ⟨e, he, hb⟩
  · exact h.row.lt
  · exact h.lst.lt hb
  · exact (h.file e he).lt hb
theorem RRaw.chg (h : RRaw w r rf lv es d) (k : Chg S w w') (hn : ∀ b, RFoot r lv es b → ¬ S b) : RRaw w' r rf lv es d :=
  ⟨h.row.chg k (hn r (.inl rfl)), h.lst.chg k (fun b hb => hn b (.inr (.inl hb))), h.up, fun e he => (h.file e he).chg k fun b hb => hn b (.inr (.inr ⟨e, he, hb⟩)), h.fs, h.nb, h.nm, h.pl⟩
theorem RefAt.chg (h : RefAt w r rf d S) (k : Chg T w w') (hn : ∀ b, S b → ¬ T b) : RefAt w' r rf d S := by
  obtain ⟨lv, es, h1, h2, h3, h4⟩ := h
  exact ⟨lv, es, h1.chg k fun b hb => hn b (h2 b hb), h2, fun b hb => Nat.lt_of_lt_of_le (h3 b hb) k.size, h4⟩
theorem RefAt.lt (h : RefAt w r rf d S) : ∀ b, S b → b < w.heap.size := by obtain ⟨_, _, _, _, h3, _⟩ := h; exact h3
/-- The disk's own block is none of its rows'. -/
theorem RRaw.self (h : RRaw w r rf lv es d) : lv.ownBlock ≠ some r ∧ ∀ e ∈ es, e.2.v.ownBlock ≠ some r :=
  ⟨h.lst.ne h.row (fun e => rty2 e.symm), fun e he => (h.file e he).ne h.row (fun e => rty3 e.symm)⟩
/-- One of the disk's own cells, written. -/
theorem RRaw.own (h : RRaw w r rf lv es d) {d' : DS} (i : Nat) (u : Value) (hr : Row (w.setCell ⟨r, i, none⟩ u) r 93 #[lv, .int .i64 d'.most, fptr rf, .bool d'.off, .int .i64 d'.bad]) (hf : d'.fs = d.fs) (h1 : d'.bad ≤ 9223372036854775807) (h2 : d'.most ≤ 4194304) : RRaw (w.setCell ⟨r, i, none⟩ u) r rf lv es d' := by
  have hc : Chg (fun b => b = r) w (w.setCell ⟨r, i, none⟩ u) := (Chg.refl (fun b => b = r) w).at r i (.inl rfl) u
  exact ⟨hr, h.lst.chg hc (fun b hb e => h.self.1 (by rw [hb, e])), h.up, fun e he => (h.file e he).chg hc fun b hb e1 => h.self.2 e he (by rw [hb, e1]), by rw [hf, h.fs], h1, h2, h.pl⟩
theorem RRaw.fuse {z : Option FS} (h : RRaw w r rf lv es d) (hz : RzAt w rf z) (b : Nat) (hb : RFoot r lv es b) : rf ≠ some b := fun e => by
  subst e
  cases z with
  | none => exact hz
  | some z =>
    rcases hb with rfl | hb | ⟨e, he, hb⟩
    · exact h.row.ne hz.1 rty1 rfl
    · exact h.lst.ne hz.1 rty5 hb
    · exact (h.file e he).ne hz.1 rty6 hb
end
/-- What ask leaves. -/
def AskOut (r : Nat) (rf : Option Nat) (z : Option FS) (lv : Value) (es : L REnt) (d : DS) (ps : List Path) (w : World) (e : Ending) (w' : World) : Prop :=
  e = .returned (.int .i64 ((begins z d ps).1 : Nat)) ∧ RzAt w' rf (begins z d ps).2.1 ∧ RRaw w' r rf lv es (begins z d ps).2.2 ∧ Chg (fun b => b = r ∨ rf = some b) w w' ∧ w'.heap.size = w.heap.size
/-- The rest of ask, behind the fuse. -/
theorem begins_on {z : Option FS} {d : DS} {ps : List Path} (h : (ticks z).1 = true) : begins z d ps = if d.off then (10, (ticks z).2, d) else if 0 < d.bad then (9, (ticks z).2, { d with bad := d.bad - 1 }) else if ps.all okP then (0, (ticks z).2, d) else (1, (ticks z).2, d) := by
  unfold begins; rw [h, if_neg (by simp)]
theorem ask_any (r : Nat) (rf : Option Nat) (z : Option FS) (lv : Value) (es : L REnt) (d : DS) (ps : List Path) (v : Value) (w : World) (h : RRaw w r rf lv es d) (hz : RzAt w rf z) (hzo : zops z < 1099511627776)
    (hps : ps.length ≤ 100000) (hpl : ∀ p ∈ ps, p.length ≤ maxLen) (hv : Strs w v ps) :
    Calls Try.prog 62 #[.pointer (some ⟨r, 0, none⟩), v] w (AskOut r rf z lv es d ps w) := by
  obtain ⟨a, c, rfl⟩ := hv.form
  have HV := Lib.hid hv
  have HPL := Lib.hid hpl
  have HZ := Lib.hid hz
  have H := Lib.hid h
  have c2 := h.row.cell (i := 2) (v := fptr rf) rfl
  clear h hz hv hpl
  cases rf with
  | none =>
    cases z with
    | some z => exact HZ.out.elim
    | none =>
      replace c2 : w.cell? ⟨r, 2, none⟩ = some (.pointer none) := c2
      have H1 := H
      have HZ1 := Lib.hid (show RzAt w none (ticks none).2 from trivial)
      have HG1 := Lib.hid (And.intro (Chg.refl (fun b => b = r ∨ (none : Option Nat) = some b) w) (rfl : w.heap.size = w.heap.size))
      have HV1 := HV
      have HT := Lib.hid (show (ticks none).1 = true from rfl)
      go_enter Try.func62, Try.ntmps62
      have c3 := H1.out.row.cell (i := 3) (v := .bool d.off) rfl
      obtain ⟨dm, dof, dbad, dfs⟩ := d
      cases dof with
      | true =>
        have HR := Lib.hid (show begins none ⟨dm, true, dbad, dfs⟩ ps = (10, (ticks none).2, ⟨dm, true, dbad, dfs⟩) by rw [begins_on HT.out, if_pos rfl])
        go_wp2_with fail
        go_ret
        unfold AskOut
        rw [HR.out]
        exact ⟨rfl, HZ1.out, H1.out, Chg.refl _ _, rfl⟩
      | false =>
        have c4 := H1.out.row.cell (i := 4) (v := .int .i64 dbad) rfl
        have hbd : dbad ≤ 9223372036854775807 := H1.out.nb
        by_cases hb : 0 < dbad
        · have HR := Lib.hid (show begins none ⟨dm, false, dbad, dfs⟩ ps = (9, (ticks none).2, ⟨dm, false, dbad - 1, dfs⟩) by rw [begins_on HT.out, if_neg (by simp), if_pos hb])
          have u4 := H1.out.row.unfrozen 4
          have hb' : (0 : Int) < (dbad : Int) := by omega
          have r2 := H1.out.row.set 4 (.int .i64 ((dbad : Int) - 1))
          have e2 : ((dbad : Int) - 1) = ((dbad - 1 : Nat) : Int) := by omega
          have h2 := H1.out.own (d' := ⟨dm, false, dbad - 1, dfs⟩) 4 (.int .i64 ((dbad : Int) - 1)) (by rw [e2] at r2 ⊢; simpa using r2) rfl (by show dbad - 1 ≤ _; omega) H1.out.nm
          have z2 := HZ1.out.chg (S := fun b => b = r) ((Chg.refl (fun b => b = r) w).at r 4 (.inl rfl) (.int .i64 ((dbad : Int) - 1))) (fun b hb e => H1.out.fuse HZ1.out r (.inl rfl) (by rw [hb, e]))
          have FIN := Lib.hid (And.intro z2 (And.intro h2 (And.intro (HG1.out.1.at r 4 (.inl (.inl rfl)) (.int .i64 ((dbad : Int) - 1))) (show (World.setCell w ⟨r, 4, none⟩ (.int .i64 ((dbad : Int) - 1))).heap.size = w.heap.size by exact setCell_size _ _ _))))
          clear r2 h2 z2 e2
          go_wp2_with fail
          go_ret
          unfold AskOut
          rw [HR.out]
          exact ⟨rfl, FIN.out⟩
        · have hb' : (dbad : Int) ≤ 0 := by omega
          have HB := Lib.hid hb
          clear hb
          go_wp2_with fail
          clear c3 c4
          go_loop [5] (fun v5 => ∃ j : Nat, j ≤ ps.length ∧ v5 = .int .i64 (j : Nat) ∧ Hid (∀ i, i < j → ∀ p, ps[i]? = some p → okP p = true)) (fun v5 => (ps.length - intOf v5).toNat)
          case atStart => exact ⟨0, by omega, rfl, Lib.hid fun i hi => by omega⟩
          case round =>
            obtain ⟨j, hj, rfl, hJ⟩ := hrel
            by_cases hlt : j < ps.length
            · have hlt' : (j : Int) < (ps.length : Int) := by omega
              obtain ⟨b5, o, rfl, c5⟩ := HV1.out.at hlt
              have hpm : ps[j] ∈ ps := List.getElem_mem hlt
              have hpe : ps[j]? = some ps[j] := List.getElem?_eq_getElem hlt
              have hlen := HPL.out ps[j] hpm
              unfold maxLen at hlen
              obtain ⟨p, hp⟩ : ∃ p, ps[j] = p := ⟨_, rfl⟩
              rw [hp] at c5 hpm hpe hlen
              have HP := Lib.hid (And.intro hpm hpe)
              clear hpm hpe hp
              by_cases hok : 1 ≤ p.length ∧ p.length ≤ 600
              · have q1 : ¬ (p.length : Int) < 1 := by omega
                have q3 : (p.length : Int) ≤ 600 := by omega
                have HO := Lib.hid hok
                clear hok
                go_wp2_with fail
                exact ⟨⟨j + 1, by omega, by go_num, Lib.hid fun i hi p' hp' => by
                  by_cases e : i = j
                  · subst e
                    rw [HP.out.2] at hp'
                    cases hp'
                    unfold okP; exact decide_eq_true HO.out
                  · exact hJ.out i (by omega) p' hp'⟩, by simp [intOf]; omega⟩
              · have HR := Lib.hid (show begins none ⟨dm, false, dbad, dfs⟩ ps = (1, (ticks none).2, ⟨dm, false, dbad, dfs⟩) by
                  have : ps.all okP = false := by
                    refine List.all_eq_false.2 ⟨p, HP.out.1, ?_⟩
                    unfold okP
                    simpa using hok
                  rw [begins_on HT.out, if_neg (by simp), if_neg HB.out, this, if_neg (by simp)])
                by_cases h0 : p.length < 1
                · have q1 : (p.length : Int) < 1 := by omega
                  clear hok h0
                  go_wp2_with fail
                  go_ret
                  unfold AskOut
                  rw [HR.out]
                  exact ⟨rfl, HZ1.out, H1.out, Chg.refl _ _, rfl⟩
                · have q1 : ¬ (p.length : Int) < 1 := by omega
                  have q3 : (600 : Int) < (p.length : Int) := by omega
                  clear hok h0
                  go_wp2_with fail
                  go_ret
                  unfold AskOut
                  rw [HR.out]
                  exact ⟨rfl, HZ1.out, H1.out, Chg.refl _ _, rfl⟩
            · have HR := Lib.hid (show begins none ⟨dm, false, dbad, dfs⟩ ps = (0, (ticks none).2, ⟨dm, false, dbad, dfs⟩) by
                have : ps.all okP = true := List.all_eq_true.2 fun p hp => by
                  obtain ⟨i, hi⟩ := List.getElem?_of_mem hp
                  exact hJ.out i (by have := (List.getElem?_eq_some_iff.1 hi).1; omega) p hi
                rw [begins_on HT.out, if_neg (by simp), if_neg HB.out, this, if_pos rfl])
              clear hJ
              go_wp2_with fail
              go_ret
              unfold AskOut
              rw [HR.out]
              exact ⟨rfl, HZ1.out, H1.out, Chg.refl _ _, rfl⟩
  | some b =>
    cases z with
    | none => exact HZ.out.elim
    | some z =>
      obtain ⟨n, k, bl⟩ := z
      obtain ⟨h1, n1, n2⟩ := HZ.out
      have hz : k < 1099511627776 := hzo
      simp only at h1 n1 n2
      replace c2 : w.cell? ⟨r, 2, none⟩ = some (.pointer (some ⟨b, 0, none⟩)) := c2
      have hrb : ¬ r = b := H.out.row.ne h1 rty1
      have d2 := h1.cell (i := 2) (v := .bool bl) rfl
      cases bl with
      | true =>
        have HR := Lib.hid (show begins (some ⟨n, k, true⟩) d ps = (20, some ⟨n, k, true⟩, d) from rfl)
        clear h1
        go_enter Try.func62, Try.ntmps62
        go_wp2_with fail
        go_ret
        unfold AskOut
        rw [HR.out]
        exact ⟨rfl, HZ.out, H.out, Chg.refl _ _, rfl⟩
      | false =>
        have d1 := h1.cell (i := 1) (v := .int .i64 k) rfl
        have u1 := h1.unfrozen 1
        have r1 : Row (w.setCell ⟨b, 1, none⟩ (.int .i64 ((k : Int) + 1))) b 70 #[.int .i64 n, .int .i64 ((k : Int) + 1), .bool false] := by simpa using h1.set 1 (.int .i64 ((k : Int) + 1))
        have g1 : Chg (fun x => x = r ∨ some b = some x) w (w.setCell ⟨b, 1, none⟩ (.int .i64 ((k : Int) + 1))) ∧ (w.setCell ⟨b, 1, none⟩ (.int .i64 ((k : Int) + 1))).heap.size = w.heap.size := ⟨(Chg.refl (fun x => x = r ∨ some b = some x) _).at b 1 (.inl (.inr rfl)) _, setCell_size _ _ _⟩
        have f1 : Chg (fun x => x = b) w (w.setCell ⟨b, 1, none⟩ (.int .i64 ((k : Int) + 1))) := (Chg.refl (fun x => x = b) _).at b 1 (.inl rfl) _
        have c2w := f1.cell c2 hrb
        have R1 := Lib.hid r1
        have G1 := Lib.hid (And.intro g1 f1)
        clear h1 r1 g1 f1
        go_enter Try.func62, Try.ntmps62
        go_wp2_with fail
        generalize w.setCell ⟨b, 1, none⟩ (.int .i64 ((k : Int) + 1)) = w0 at R1 G1 c2w ⊢
        clear c2 d1 d2 u1
        have c2 := c2w
        have d0 := R1.out.cell (i := 0) (v := .int .i64 n) rfl
        have d1 := R1.out.cell (i := 1) (v := .int .i64 ((k : Int) + 1)) rfl
        have d2 := R1.out.cell (i := 2) (v := .bool false) rfl
        have u2 := R1.out.unfrozen 2
        have S0 : (fun w' : World => w'.cell? ⟨r, 2, none⟩ = some (.pointer (some ⟨b, 0, none⟩)) ∧ w'.cell? ⟨b, 0, none⟩ = some (.int .i64 n) ∧ w'.cell? ⟨b, 1, none⟩ = some (.int .i64 ((k : Int) + 1))) w0.drew := ⟨c2, d0, d1⟩
        have hS : ∀ v, (fun w' : World => w'.cell? ⟨r, 2, none⟩ = some (.pointer (some ⟨b, 0, none⟩)) ∧ w'.cell? ⟨b, 0, none⟩ = some (.int .i64 n) ∧ w'.cell? ⟨b, 1, none⟩ = some (.int .i64 ((k : Int) + 1))) (w0.drew.setCell ⟨b, 2, none⟩ v) := fun v => by
          have r2 := R1.out.drew.set 2 v
          exact ⟨((Chg.refl (fun x => x = b) w0.drew).at b 2 (.inl rfl) v).cell c2 hrb, r2.cell (i := 0) rfl, r2.cell (i := 1) rfl⟩
        have fin : ∀ e : Bool, e = decide (0 < n ∧ n ≤ (k : Int) + 1) → RzAt (w0.drew.setCell ⟨b, 2, none⟩ (.bool e)) (some b) (ticks (some ⟨n, k, false⟩)).2 ∧ (Chg (fun x => x = r ∨ some b = some x) w (w0.drew.setCell ⟨b, 2, none⟩ (.bool e)) ∧ (w0.drew.setCell ⟨b, 2, none⟩ (.bool e)).heap.size = w.heap.size) ∧ Chg (fun x => x = b) w (w0.drew.setCell ⟨b, 2, none⟩ (.bool e)) := fun e he => by
          have r2 := R1.out.drew.set 2 (.bool e)
          subst he
          exact ⟨⟨by simpa using r2, n1, n2⟩, ⟨G1.out.1.1.drew.at b 2 (.inl (.inr rfl)) _, by rw [setCell_size]; exact G1.out.1.2⟩, G1.out.2.drew.at b 2 (.inl rfl) _⟩
        have FIN := Lib.hid fin
        have HT := Lib.hid (show (ticks (some ⟨n, k, false⟩)).1 = true from rfl)
        clear fin c2w
        by_cases hn : 0 < n
        · by_cases hk : n ≤ (k : Int) + 1
          · have HD := Lib.hid (show true = decide (0 < n ∧ n ≤ (k : Int) + 1) by simp [hn, hk])
            go_region_held3 (fun w' : World => w'.cell? ⟨r, 2, none⟩ = some (.pointer (some ⟨b, 0, none⟩)) ∧ w'.cell? ⟨b, 0, none⟩ = some (.int .i64 n) ∧ w'.cell? ⟨b, 1, none⟩ = some (.int .i64 ((k : Int) + 1))) (first | assumption | exact hS _) (fail)
            obtain ⟨w1, hw1⟩ : ∃ w1, (w0.setCell ⟨b, 2, none⟩ (.bool true)).drew = w1 := ⟨_, rfl⟩
            have h4 : RzAt w1 (some b) (ticks (some ⟨n, k, false⟩)).2 ∧ (Chg (fun x => x = r ∨ some b = some x) w w1 ∧ w1.heap.size = w.heap.size) ∧ Chg (fun x => x = b) w w1 := by rw [← hw1]; exact FIN.out true HD.out
            rw [hw1]
            clear hw1
            have H1 := Lib.hid (H.out.chg h4.2.2 (fun x hx e => H.out.fuse HZ.out x hx (by rw [e])))
            have HV1 := Lib.hid (HV.out.chg h4.2.2 (fun x hx e => by
              obtain ⟨cur, hr⟩ := HV.out.row hx
              exact hr.ne HZ.out.1 rty7 e))
            have HZ1 := Lib.hid h4.1
            have HG1 := Lib.hid h4.2.1
            clear h4 c2 d0 d1 d2 u2 S0 hS
            have c3 := H1.out.row.cell (i := 3) (v := .bool d.off) rfl
            obtain ⟨dm, dof, dbad, dfs⟩ := d
            cases dof with
            | true =>
              have HR := Lib.hid (show begins (some ⟨n, k, false⟩) ⟨dm, true, dbad, dfs⟩ ps = (10, (ticks (some ⟨n, k, false⟩)).2, ⟨dm, true, dbad, dfs⟩) by rw [begins_on HT.out, if_pos rfl])
              go_wp2_with fail
              go_ret
              unfold AskOut
              rw [HR.out]
              exact ⟨rfl, HZ1.out, H1.out, HG1.out.1, HG1.out.2⟩
            | false =>
              have c4 := H1.out.row.cell (i := 4) (v := .int .i64 dbad) rfl
              have hbd : dbad ≤ 9223372036854775807 := H1.out.nb
              by_cases hb : 0 < dbad
              · have HR := Lib.hid (show begins (some ⟨n, k, false⟩) ⟨dm, false, dbad, dfs⟩ ps = (9, (ticks (some ⟨n, k, false⟩)).2, ⟨dm, false, dbad - 1, dfs⟩) by rw [begins_on HT.out, if_neg (by simp), if_pos hb])
                have u4 := H1.out.row.unfrozen 4
                have hb' : (0 : Int) < (dbad : Int) := by omega
                have r2 := H1.out.row.set 4 (.int .i64 ((dbad : Int) - 1))
                have e2 : ((dbad : Int) - 1) = ((dbad - 1 : Nat) : Int) := by omega
                have h2 := H1.out.own (d' := ⟨dm, false, dbad - 1, dfs⟩) 4 (.int .i64 ((dbad : Int) - 1)) (by rw [e2] at r2 ⊢; simpa using r2) rfl (by show dbad - 1 ≤ _; omega) H1.out.nm
                have z2 := HZ1.out.chg (S := fun b => b = r) ((Chg.refl (fun b => b = r) w1).at r 4 (.inl rfl) (.int .i64 ((dbad : Int) - 1))) (fun b hb e => H1.out.fuse HZ1.out r (.inl rfl) (by rw [hb, e]))
                have FIN := Lib.hid (And.intro z2 (And.intro h2 (And.intro (HG1.out.1.at r 4 (.inl (.inl rfl)) (.int .i64 ((dbad : Int) - 1))) (show (World.setCell w1 ⟨r, 4, none⟩ (.int .i64 ((dbad : Int) - 1))).heap.size = w.heap.size by rw [setCell_size]; exact HG1.out.2))))
                clear r2 h2 z2 e2
                go_wp2_with fail
                go_ret
                unfold AskOut
                rw [HR.out]
                exact ⟨rfl, FIN.out⟩
              · have hb' : (dbad : Int) ≤ 0 := by omega
                have HB := Lib.hid hb
                clear hb
                go_wp2_with fail
                clear c3 c4
                go_loop [5] (fun v5 => ∃ j : Nat, j ≤ ps.length ∧ v5 = .int .i64 (j : Nat) ∧ Hid (∀ i, i < j → ∀ p, ps[i]? = some p → okP p = true)) (fun v5 => (ps.length - intOf v5).toNat)
                case atStart => exact ⟨0, by omega, rfl, Lib.hid fun i hi => by omega⟩
                case round =>
                  obtain ⟨j, hj, rfl, hJ⟩ := hrel
                  by_cases hlt : j < ps.length
                  · have hlt' : (j : Int) < (ps.length : Int) := by omega
                    obtain ⟨b5, o, rfl, c5⟩ := HV1.out.at hlt
                    have hpm : ps[j] ∈ ps := List.getElem_mem hlt
                    have hpe : ps[j]? = some ps[j] := List.getElem?_eq_getElem hlt
                    have hlen := HPL.out ps[j] hpm
                    unfold maxLen at hlen
                    obtain ⟨p, hp⟩ : ∃ p, ps[j] = p := ⟨_, rfl⟩
                    rw [hp] at c5 hpm hpe hlen
                    have HP := Lib.hid (And.intro hpm hpe)
                    clear hpm hpe hp
                    by_cases hok : 1 ≤ p.length ∧ p.length ≤ 600
                    · have q1 : ¬ (p.length : Int) < 1 := by omega
                      have q3 : (p.length : Int) ≤ 600 := by omega
                      have HO := Lib.hid hok
                      clear hok
                      go_wp2_with fail
                      exact ⟨⟨j + 1, by omega, by go_num, Lib.hid fun i hi p' hp' => by
                        by_cases e : i = j
                        · subst e
                          rw [HP.out.2] at hp'
                          cases hp'
                          unfold okP; exact decide_eq_true HO.out
                        · exact hJ.out i (by omega) p' hp'⟩, by simp [intOf]; omega⟩
                    · have HR := Lib.hid (show begins (some ⟨n, k, false⟩) ⟨dm, false, dbad, dfs⟩ ps = (1, (ticks (some ⟨n, k, false⟩)).2, ⟨dm, false, dbad, dfs⟩) by
                        have : ps.all okP = false := by
                          refine List.all_eq_false.2 ⟨p, HP.out.1, ?_⟩
                          unfold okP
                          simpa using hok
                        rw [begins_on HT.out, if_neg (by simp), if_neg HB.out, this, if_neg (by simp)])
                      by_cases h0 : p.length < 1
                      · have q1 : (p.length : Int) < 1 := by omega
                        clear hok h0
                        go_wp2_with fail
                        go_ret
                        unfold AskOut
                        rw [HR.out]
                        exact ⟨rfl, HZ1.out, H1.out, HG1.out.1, HG1.out.2⟩
                      · have q1 : ¬ (p.length : Int) < 1 := by omega
                        have q3 : (600 : Int) < (p.length : Int) := by omega
                        clear hok h0
                        go_wp2_with fail
                        go_ret
                        unfold AskOut
                        rw [HR.out]
                        exact ⟨rfl, HZ1.out, H1.out, HG1.out.1, HG1.out.2⟩
                  · have HR := Lib.hid (show begins (some ⟨n, k, false⟩) ⟨dm, false, dbad, dfs⟩ ps = (0, (ticks (some ⟨n, k, false⟩)).2, ⟨dm, false, dbad, dfs⟩) by
                      have : ps.all okP = true := List.all_eq_true.2 fun p hp => by
                        obtain ⟨i, hi⟩ := List.getElem?_of_mem hp
                        exact hJ.out i (by have := (List.getElem?_eq_some_iff.1 hi).1; omega) p hi
                      rw [begins_on HT.out, if_neg (by simp), if_neg HB.out, this, if_pos rfl])
                    clear hJ
                    go_wp2_with fail
                    go_ret
                    unfold AskOut
                    rw [HR.out]
                    exact ⟨rfl, HZ1.out, H1.out, HG1.out.1, HG1.out.2⟩
          · have hk' : (k : Int) + 1 < n := by omega
            have HD := Lib.hid (show false = decide (0 < n ∧ n ≤ (k : Int) + 1) by simp [hk])
            have hkd : decide (n ≤ (k : Int) + 1) = false := by simpa using hk'
            clear hk
            go_region_held3 (fun w' : World => w'.cell? ⟨r, 2, none⟩ = some (.pointer (some ⟨b, 0, none⟩)) ∧ w'.cell? ⟨b, 0, none⟩ = some (.int .i64 n) ∧ w'.cell? ⟨b, 1, none⟩ = some (.int .i64 ((k : Int) + 1))) (first | assumption | exact hS _) (fail)
            obtain ⟨w1, hw1⟩ : ∃ w1, (w0.setCell ⟨b, 2, none⟩ (.bool false)).drew = w1 := ⟨_, rfl⟩
            have h4 : RzAt w1 (some b) (ticks (some ⟨n, k, false⟩)).2 ∧ (Chg (fun x => x = r ∨ some b = some x) w w1 ∧ w1.heap.size = w.heap.size) ∧ Chg (fun x => x = b) w w1 := by rw [← hw1]; exact FIN.out false HD.out
            rw [hw1]
            clear hw1
            have H1 := Lib.hid (H.out.chg h4.2.2 (fun x hx e => H.out.fuse HZ.out x hx (by rw [e])))
            have HV1 := Lib.hid (HV.out.chg h4.2.2 (fun x hx e => by
              obtain ⟨cur, hr⟩ := HV.out.row hx
              exact hr.ne HZ.out.1 rty7 e))
            have HZ1 := Lib.hid h4.1
            have HG1 := Lib.hid h4.2.1
            clear h4 c2 d0 d1 d2 u2 S0 hS
            have c3 := H1.out.row.cell (i := 3) (v := .bool d.off) rfl
            obtain ⟨dm, dof, dbad, dfs⟩ := d
            cases dof with
            | true =>
              have HR := Lib.hid (show begins (some ⟨n, k, false⟩) ⟨dm, true, dbad, dfs⟩ ps = (10, (ticks (some ⟨n, k, false⟩)).2, ⟨dm, true, dbad, dfs⟩) by rw [begins_on HT.out, if_pos rfl])
              go_wp2_with fail
              go_ret
              unfold AskOut
              rw [HR.out]
              exact ⟨rfl, HZ1.out, H1.out, HG1.out.1, HG1.out.2⟩
            | false =>
              have c4 := H1.out.row.cell (i := 4) (v := .int .i64 dbad) rfl
              have hbd : dbad ≤ 9223372036854775807 := H1.out.nb
              by_cases hb : 0 < dbad
              · have HR := Lib.hid (show begins (some ⟨n, k, false⟩) ⟨dm, false, dbad, dfs⟩ ps = (9, (ticks (some ⟨n, k, false⟩)).2, ⟨dm, false, dbad - 1, dfs⟩) by rw [begins_on HT.out, if_neg (by simp), if_pos hb])
                have u4 := H1.out.row.unfrozen 4
                have hb' : (0 : Int) < (dbad : Int) := by omega
                have r2 := H1.out.row.set 4 (.int .i64 ((dbad : Int) - 1))
                have e2 : ((dbad : Int) - 1) = ((dbad - 1 : Nat) : Int) := by omega
                have h2 := H1.out.own (d' := ⟨dm, false, dbad - 1, dfs⟩) 4 (.int .i64 ((dbad : Int) - 1)) (by rw [e2] at r2 ⊢; simpa using r2) rfl (by show dbad - 1 ≤ _; omega) H1.out.nm
                have z2 := HZ1.out.chg (S := fun b => b = r) ((Chg.refl (fun b => b = r) w1).at r 4 (.inl rfl) (.int .i64 ((dbad : Int) - 1))) (fun b hb e => H1.out.fuse HZ1.out r (.inl rfl) (by rw [hb, e]))
                have FIN := Lib.hid (And.intro z2 (And.intro h2 (And.intro (HG1.out.1.at r 4 (.inl (.inl rfl)) (.int .i64 ((dbad : Int) - 1))) (show (World.setCell w1 ⟨r, 4, none⟩ (.int .i64 ((dbad : Int) - 1))).heap.size = w.heap.size by rw [setCell_size]; exact HG1.out.2))))
                clear r2 h2 z2 e2
                go_wp2_with fail
                go_ret
                unfold AskOut
                rw [HR.out]
                exact ⟨rfl, FIN.out⟩
              · have hb' : (dbad : Int) ≤ 0 := by omega
                have HB := Lib.hid hb
                clear hb
                go_wp2_with fail
                clear c3 c4
                go_loop [5] (fun v5 => ∃ j : Nat, j ≤ ps.length ∧ v5 = .int .i64 (j : Nat) ∧ Hid (∀ i, i < j → ∀ p, ps[i]? = some p → okP p = true)) (fun v5 => (ps.length - intOf v5).toNat)
                case atStart => exact ⟨0, by omega, rfl, Lib.hid fun i hi => by omega⟩
                case round =>
                  obtain ⟨j, hj, rfl, hJ⟩ := hrel
                  by_cases hlt : j < ps.length
                  · have hlt' : (j : Int) < (ps.length : Int) := by omega
                    obtain ⟨b5, o, rfl, c5⟩ := HV1.out.at hlt
                    have hpm : ps[j] ∈ ps := List.getElem_mem hlt
                    have hpe : ps[j]? = some ps[j] := List.getElem?_eq_getElem hlt
                    have hlen := HPL.out ps[j] hpm
                    unfold maxLen at hlen
                    obtain ⟨p, hp⟩ : ∃ p, ps[j] = p := ⟨_, rfl⟩
                    rw [hp] at c5 hpm hpe hlen
                    have HP := Lib.hid (And.intro hpm hpe)
                    clear hpm hpe hp
                    by_cases hok : 1 ≤ p.length ∧ p.length ≤ 600
                    · have q1 : ¬ (p.length : Int) < 1 := by omega
                      have q3 : (p.length : Int) ≤ 600 := by omega
                      have HO := Lib.hid hok
                      clear hok
                      go_wp2_with fail
                      exact ⟨⟨j + 1, by omega, by go_num, Lib.hid fun i hi p' hp' => by
                        by_cases e : i = j
                        · subst e
                          rw [HP.out.2] at hp'
                          cases hp'
                          unfold okP; exact decide_eq_true HO.out
                        · exact hJ.out i (by omega) p' hp'⟩, by simp [intOf]; omega⟩
                    · have HR := Lib.hid (show begins (some ⟨n, k, false⟩) ⟨dm, false, dbad, dfs⟩ ps = (1, (ticks (some ⟨n, k, false⟩)).2, ⟨dm, false, dbad, dfs⟩) by
                        have : ps.all okP = false := by
                          refine List.all_eq_false.2 ⟨p, HP.out.1, ?_⟩
                          unfold okP
                          simpa using hok
                        rw [begins_on HT.out, if_neg (by simp), if_neg HB.out, this, if_neg (by simp)])
                      by_cases h0 : p.length < 1
                      · have q1 : (p.length : Int) < 1 := by omega
                        clear hok h0
                        go_wp2_with fail
                        go_ret
                        unfold AskOut
                        rw [HR.out]
                        exact ⟨rfl, HZ1.out, H1.out, HG1.out.1, HG1.out.2⟩
                      · have q1 : ¬ (p.length : Int) < 1 := by omega
                        have q3 : (600 : Int) < (p.length : Int) := by omega
                        clear hok h0
                        go_wp2_with fail
                        go_ret
                        unfold AskOut
                        rw [HR.out]
                        exact ⟨rfl, HZ1.out, H1.out, HG1.out.1, HG1.out.2⟩
                  · have HR := Lib.hid (show begins (some ⟨n, k, false⟩) ⟨dm, false, dbad, dfs⟩ ps = (0, (ticks (some ⟨n, k, false⟩)).2, ⟨dm, false, dbad, dfs⟩) by
                      have : ps.all okP = true := List.all_eq_true.2 fun p hp => by
                        obtain ⟨i, hi⟩ := List.getElem?_of_mem hp
                        exact hJ.out i (by have := (List.getElem?_eq_some_iff.1 hi).1; omega) p hi
                      rw [begins_on HT.out, if_neg (by simp), if_neg HB.out, this, if_pos rfl])
                    clear hJ
                    go_wp2_with fail
                    go_ret
                    unfold AskOut
                    rw [HR.out]
                    exact ⟨rfl, HZ1.out, H1.out, HG1.out.1, HG1.out.2⟩
        · have hn' : n ≤ 0 := by omega
          have HD := Lib.hid (show false = decide (0 < n ∧ n ≤ (k : Int) + 1) by simp [hn])
          have hdn : decide (0 < n) = false := by simpa using hn'
          clear hn
          have hS2 := hS
          have hS := S0
          refine wp_cut [28, 29, 30, 31, 32, 33, 34, 35, 36, 37, 38, 39, 40, 41, 42, 43, 44, 45, 46, 47, 48, 49, 50, 51, 52, 53, 54, 55, 56, 57, 58] (fun w8 => RzAt w8 (some b) (ticks (some ⟨n, k, false⟩)).2 ∧ (Chg (fun x => x = r ∨ some b = some x) w w8 ∧ w8.heap.size = w.heap.size) ∧ Chg (fun x => x = b) w w8) ?_ ?_
          · refine wp_region_held_drew (S := (fun w' : World => w'.cell? ⟨r, 2, none⟩ = some (.pointer (some ⟨b, 0, none⟩)) ∧ w'.cell? ⟨b, 0, none⟩ = some (.int .i64 n) ∧ w'.cell? ⟨b, 1, none⟩ = some (.int .i64 ((k : Int) + 1)))) (by kernel_rfl) S0 fun _ => ?_
            refine wpH_take (i := 0) (j := 28) (v := ?_) rfl rfl (by kernel_rfl) (by kernel_rfl) (by kernel_rfl) (fun _ _ _ h => h) (Or.inl ⟨by kernel_rfl, fun wl hl => ?_⟩) hS ?_
            rotate_left
            · obtain ⟨l0, l1, l2⟩ := hl
              go_simp
              try with_reducible rfl
            refine wpH_take (i := 1) (j := 29) (v := ?_) rfl rfl (by kernel_rfl) (by kernel_rfl) (by kernel_rfl) (fun _ _ _ h => h) (Or.inl ⟨by kernel_rfl, fun wl hl => ?_⟩) hS ?_
            rotate_left
            · obtain ⟨l0, l1, l2⟩ := hl
              go_simp
              try with_reducible rfl
            refine wpH_take (i := 2) (j := 30) (v := ?_) rfl rfl (by kernel_rfl) (by kernel_rfl) (by kernel_rfl) (fun _ _ _ h => h) (Or.inl ⟨by kernel_rfl, fun wl hl => ?_⟩) hS ?_
            rotate_left
            · obtain ⟨l0, l1, l2⟩ := hl
              go_simp
              try with_reducible rfl
            refine wpH_take (i := 3) (j := 31) (v := ?_) rfl rfl (by kernel_rfl) (by kernel_rfl) (by kernel_rfl) (fun _ _ _ h => h) (Or.inl ⟨by kernel_rfl, fun wl hl => ?_⟩) hS ?_
            rotate_left
            · obtain ⟨l0, l1, l2⟩ := hl
              go_simp
              try with_reducible rfl
            refine wpH_take (i := 4) (j := 32) (v := ?_) rfl rfl (by kernel_rfl) (by kernel_rfl) (by kernel_rfl) (fun _ _ _ h => h) (Or.inl ⟨by kernel_rfl, fun wl hl => ?_⟩) hS ?_
            rotate_left
            · obtain ⟨l0, l1, l2⟩ := hl
              go_simp
              try with_reducible rfl
            refine wpH_take (i := 5) (j := 33) (v := ?_) rfl rfl (by kernel_rfl) (by kernel_rfl) (by kernel_rfl) (fun _ _ _ h => h) (Or.inl ⟨by kernel_rfl, fun wl hl => ?_⟩) hS ?_
            rotate_left
            · obtain ⟨l0, l1, l2⟩ := hl
              go_simp
              try with_reducible rfl
            refine wpH_take (i := 6) (j := 34) (v := ?_) rfl rfl (by kernel_rfl) (by kernel_rfl) (by kernel_rfl) (fun _ _ _ h => h) (Or.inl ⟨by kernel_rfl, fun wl hl => ?_⟩) hS ?_
            rotate_left
            · obtain ⟨l0, l1, l2⟩ := hl
              go_simp
              try with_reducible rfl
            refine wpH_take (i := 7) (j := 35) (v := ?_) rfl rfl (by kernel_rfl) (by kernel_rfl) (by kernel_rfl) (fun _ _ _ h => h) (Or.inl ⟨by kernel_rfl, fun wl hl => ?_⟩) hS ?_
            rotate_left
            · obtain ⟨l0, l1, l2⟩ := hl
              go_simp
              try with_reducible rfl
            refine wpH_take (i := 8) (j := 36) (v := ?_) rfl rfl (by kernel_rfl) (by kernel_rfl) (by kernel_rfl) (fun _ _ _ h => h) (Or.inl ⟨by kernel_rfl, fun wl hl => ?_⟩) hS ?_
            rotate_left
            · obtain ⟨l0, l1, l2⟩ := hl
              go_simp
              try with_reducible rfl
            refine wpH_take (i := 9) (j := 37) (v := ?_) rfl rfl (by kernel_rfl) (by kernel_rfl) (by kernel_rfl) (fun _ _ _ h => h) (Or.inl ⟨by kernel_rfl, fun wl hl => ?_⟩) hS ?_
            rotate_left
            · obtain ⟨l0, l1, l2⟩ := hl
              go_simp
              try with_reducible rfl
            refine wpH_take (i := 10) (j := 38) (v := ?_) rfl rfl (by kernel_rfl) (by kernel_rfl) (by kernel_rfl) (fun _ _ _ h => h) (Or.inl ⟨by kernel_rfl, fun wl hl => ?_⟩) hS ?_
            rotate_left
            · obtain ⟨l0, l1, l2⟩ := hl
              go_simp
              try with_reducible rfl
            refine wpH_take (i := 11) (j := 39) (v := ?_) rfl rfl (by kernel_rfl) (by kernel_rfl) (by kernel_rfl) (fun _ _ _ h => h) (Or.inl ⟨by kernel_rfl, fun wl hl => ?_⟩) hS ?_
            rotate_left
            · obtain ⟨l0, l1, l2⟩ := hl
              go_simp
              try with_reducible rfl
            refine wpH_take (i := 12) (j := 40) (v := ?_) rfl rfl (by kernel_rfl) (by kernel_rfl) (by kernel_rfl) (fun _ _ _ h => h) (Or.inl ⟨by kernel_rfl, fun wl hl => ?_⟩) hS ?_
            rotate_left
            · obtain ⟨l0, l1, l2⟩ := hl
              go_simp
              try with_reducible rfl
            refine wpH_take (i := 13) (j := 41) (v := undef) rfl rfl (by kernel_rfl) (by kernel_rfl) (by kernel_rfl) (fun _ _ _ h => h) (Or.inr ⟨by kernel_rfl, rfl⟩) hS ?_
            refine wpH_take (i := 14) (j := 42) (v := undef) rfl rfl (by kernel_rfl) (by kernel_rfl) (by kernel_rfl) (fun _ _ _ h => h) (Or.inr ⟨by kernel_rfl, rfl⟩) hS ?_
            refine wpH_take (i := 15) (j := 43) (v := undef) rfl rfl (by kernel_rfl) (by kernel_rfl) (by kernel_rfl) (fun _ _ _ h => h) (Or.inr ⟨by kernel_rfl, rfl⟩) hS ?_
            refine wpH_take (i := 16) (j := 44) (v := undef) rfl rfl (by kernel_rfl) (by kernel_rfl) (by kernel_rfl) (fun _ _ _ h => h) (Or.inr ⟨by kernel_rfl, rfl⟩) hS ?_
            refine wpH_take (i := 17) (j := 45) (v := undef) rfl rfl (by kernel_rfl) (by kernel_rfl) (by kernel_rfl) (fun _ _ _ h => h) (Or.inr ⟨by kernel_rfl, rfl⟩) hS ?_
            refine wpH_take (i := 18) (j := 46) (v := undef) rfl rfl (by kernel_rfl) (by kernel_rfl) (by kernel_rfl) (fun _ _ _ h => h) (Or.inr ⟨by kernel_rfl, rfl⟩) hS ?_
            refine wpH_take (i := 19) (j := 47) (v := undef) rfl rfl (by kernel_rfl) (by kernel_rfl) (by kernel_rfl) (fun _ _ _ h => h) (Or.inr ⟨by kernel_rfl, rfl⟩) hS ?_
            refine wpH_take (i := 20) (j := 48) (v := undef) rfl rfl (by kernel_rfl) (by kernel_rfl) (by kernel_rfl) (fun _ _ _ h => h) (Or.inr ⟨by kernel_rfl, rfl⟩) hS ?_
            refine wpH_take (i := 21) (j := 49) (v := undef) rfl rfl (by kernel_rfl) (by kernel_rfl) (by kernel_rfl) (fun _ _ _ h => h) (Or.inr ⟨by kernel_rfl, rfl⟩) hS ?_
            refine wpH_take (i := 22) (j := 50) (v := undef) rfl rfl (by kernel_rfl) (by kernel_rfl) (by kernel_rfl) (fun _ _ _ h => h) (Or.inr ⟨by kernel_rfl, rfl⟩) hS ?_
            refine wpH_take (i := 23) (j := 51) (v := undef) rfl rfl (by kernel_rfl) (by kernel_rfl) (by kernel_rfl) (fun _ _ _ h => h) (Or.inr ⟨by kernel_rfl, rfl⟩) hS ?_
            refine wpH_take (i := 24) (j := 52) (v := undef) rfl rfl (by kernel_rfl) (by kernel_rfl) (by kernel_rfl) (fun _ _ _ h => h) (Or.inr ⟨by kernel_rfl, rfl⟩) hS ?_
            refine wpH_take (i := 25) (j := 53) (v := undef) rfl rfl (by kernel_rfl) (by kernel_rfl) (by kernel_rfl) (fun _ _ _ h => h) (Or.inr ⟨by kernel_rfl, rfl⟩) hS ?_
            refine wpH_take (i := 26) (j := 54) (v := undef) rfl rfl (by kernel_rfl) (by kernel_rfl) (by kernel_rfl) (fun _ _ _ h => h) (Or.inr ⟨by kernel_rfl, rfl⟩) hS ?_
            refine wpH_take (i := 27) (j := 55) (v := undef) rfl rfl (by kernel_rfl) (by kernel_rfl) (by kernel_rfl) (fun _ _ _ h => h) (Or.inr ⟨by kernel_rfl, rfl⟩) hS ?_
            refine wpH_take (i := 28) (j := 56) (v := ?_) rfl rfl (by kernel_rfl) (by kernel_rfl) (by kernel_rfl) (fun _ _ _ h => h) (Or.inl ⟨by kernel_rfl, fun wl hl => ?_⟩) hS ?_
            rotate_left
            · obtain ⟨l0, l1, l2⟩ := hl
              go_simp
              try with_reducible rfl
            refine wpH_take (i := 29) (j := 57) (v := ?_) rfl rfl (by kernel_rfl) (by kernel_rfl) (by kernel_rfl) (fun _ _ _ h => h) (Or.inl ⟨by kernel_rfl, fun wl hl => ?_⟩) hS ?_
            rotate_left
            · obtain ⟨l0, l1, l2⟩ := hl
              go_simp
              try with_reducible rfl
            refine wpH_take (i := 30) (j := 58) (v := ?_) rfl rfl (by kernel_rfl) (by kernel_rfl) (by kernel_rfl) (fun _ _ _ h => h) (Or.inl ⟨by kernel_rfl, fun wl hl => ?_⟩) hS ?_
            rotate_left
            · obtain ⟨l0, l1, l2⟩ := hl
              go_simp
              try with_reducible rfl
            refine wpAnyH_ready (rs := [31]) (by kernel_rfl) (by simp) (AllReadyH.cons rfl (fun K hK => ?_) AllReadyH.nil)
            simp only [List.set_cons_zero, List.set_cons_succ]
            go_simp
            refine hK.out _ _ (hS2 _) fun _ => ?_
            clear hK K
            refine wpAnyH_done (by kernel_rfl) ?_ _
            exact cut_end (FIN.out false HD.out) (by kernel_rfl)
          · intro us w1 h4
            have H1 := Lib.hid (H.out.chg h4.2.2 (fun x hx e => H.out.fuse HZ.out x hx (by rw [e])))
            have HV1 := Lib.hid (HV.out.chg h4.2.2 (fun x hx e => by
              obtain ⟨cur, hr⟩ := HV.out.row hx
              exact hr.ne HZ.out.1 rty7 e))
            have HZ1 := Lib.hid h4.1
            have HG1 := Lib.hid h4.2.1
            clear h4 c2 d0 d1 d2 u2 S0 hS hS2
            simp only [setAll, List.foldl_cons, List.foldl_nil, List.set_cons_zero, List.set_cons_succ]
            have c3 := H1.out.row.cell (i := 3) (v := .bool d.off) rfl
            obtain ⟨dm, dof, dbad, dfs⟩ := d
            cases dof with
            | true =>
              have HR := Lib.hid (show begins (some ⟨n, k, false⟩) ⟨dm, true, dbad, dfs⟩ ps = (10, (ticks (some ⟨n, k, false⟩)).2, ⟨dm, true, dbad, dfs⟩) by rw [begins_on HT.out, if_pos rfl])
              go_wp2_with fail
              go_ret
              unfold AskOut
              rw [HR.out]
              exact ⟨rfl, HZ1.out, H1.out, HG1.out.1, HG1.out.2⟩
            | false =>
              have c4 := H1.out.row.cell (i := 4) (v := .int .i64 dbad) rfl
              have hbd : dbad ≤ 9223372036854775807 := H1.out.nb
              by_cases hb : 0 < dbad
              · have HR := Lib.hid (show begins (some ⟨n, k, false⟩) ⟨dm, false, dbad, dfs⟩ ps = (9, (ticks (some ⟨n, k, false⟩)).2, ⟨dm, false, dbad - 1, dfs⟩) by rw [begins_on HT.out, if_neg (by simp), if_pos hb])
                have u4 := H1.out.row.unfrozen 4
                have hb' : (0 : Int) < (dbad : Int) := by omega
                have r2 := H1.out.row.set 4 (.int .i64 ((dbad : Int) - 1))
                have e2 : ((dbad : Int) - 1) = ((dbad - 1 : Nat) : Int) := by omega
                have h2 := H1.out.own (d' := ⟨dm, false, dbad - 1, dfs⟩) 4 (.int .i64 ((dbad : Int) - 1)) (by rw [e2] at r2 ⊢; simpa using r2) rfl (by show dbad - 1 ≤ _; omega) H1.out.nm
                have z2 := HZ1.out.chg (S := fun b => b = r) ((Chg.refl (fun b => b = r) w1).at r 4 (.inl rfl) (.int .i64 ((dbad : Int) - 1))) (fun b hb e => H1.out.fuse HZ1.out r (.inl rfl) (by rw [hb, e]))
                have FIN := Lib.hid (And.intro z2 (And.intro h2 (And.intro (HG1.out.1.at r 4 (.inl (.inl rfl)) (.int .i64 ((dbad : Int) - 1))) (show (World.setCell w1 ⟨r, 4, none⟩ (.int .i64 ((dbad : Int) - 1))).heap.size = w.heap.size by rw [setCell_size]; exact HG1.out.2))))
                clear r2 h2 z2 e2
                go_wp2_with fail
                go_ret
                unfold AskOut
                rw [HR.out]
                exact ⟨rfl, FIN.out⟩
              · have hb' : (dbad : Int) ≤ 0 := by omega
                have HB := Lib.hid hb
                clear hb
                go_wp2_with fail
                clear c3 c4
                go_loop [5] (fun v5 => ∃ j : Nat, j ≤ ps.length ∧ v5 = .int .i64 (j : Nat) ∧ Hid (∀ i, i < j → ∀ p, ps[i]? = some p → okP p = true)) (fun v5 => (ps.length - intOf v5).toNat)
                case atStart => exact ⟨0, by omega, rfl, Lib.hid fun i hi => by omega⟩
                case round =>
                  obtain ⟨j, hj, rfl, hJ⟩ := hrel
                  by_cases hlt : j < ps.length
                  · have hlt' : (j : Int) < (ps.length : Int) := by omega
                    obtain ⟨b5, o, rfl, c5⟩ := HV1.out.at hlt
                    have hpm : ps[j] ∈ ps := List.getElem_mem hlt
                    have hpe : ps[j]? = some ps[j] := List.getElem?_eq_getElem hlt
                    have hlen := HPL.out ps[j] hpm
                    unfold maxLen at hlen
                    obtain ⟨p, hp⟩ : ∃ p, ps[j] = p := ⟨_, rfl⟩
                    rw [hp] at c5 hpm hpe hlen
                    have HP := Lib.hid (And.intro hpm hpe)
                    clear hpm hpe hp
                    by_cases hok : 1 ≤ p.length ∧ p.length ≤ 600
                    · have q1 : ¬ (p.length : Int) < 1 := by omega
                      have q3 : (p.length : Int) ≤ 600 := by omega
                      have HO := Lib.hid hok
                      clear hok
                      go_wp2_with fail
                      exact ⟨⟨j + 1, by omega, by go_num, Lib.hid fun i hi p' hp' => by
                        by_cases e : i = j
                        · subst e
                          rw [HP.out.2] at hp'
                          cases hp'
                          unfold okP; exact decide_eq_true HO.out
                        · exact hJ.out i (by omega) p' hp'⟩, by simp [intOf]; omega⟩
                    · have HR := Lib.hid (show begins (some ⟨n, k, false⟩) ⟨dm, false, dbad, dfs⟩ ps = (1, (ticks (some ⟨n, k, false⟩)).2, ⟨dm, false, dbad, dfs⟩) by
                        have : ps.all okP = false := by
                          refine List.all_eq_false.2 ⟨p, HP.out.1, ?_⟩
                          unfold okP
                          simpa using hok
                        rw [begins_on HT.out, if_neg (by simp), if_neg HB.out, this, if_neg (by simp)])
                      by_cases h0 : p.length < 1
                      · have q1 : (p.length : Int) < 1 := by omega
                        clear hok h0
                        go_wp2_with fail
                        go_ret
                        unfold AskOut
                        rw [HR.out]
                        exact ⟨rfl, HZ1.out, H1.out, HG1.out.1, HG1.out.2⟩
                      · have q1 : ¬ (p.length : Int) < 1 := by omega
                        have q3 : (600 : Int) < (p.length : Int) := by omega
                        clear hok h0
                        go_wp2_with fail
                        go_ret
                        unfold AskOut
                        rw [HR.out]
                        exact ⟨rfl, HZ1.out, H1.out, HG1.out.1, HG1.out.2⟩
                  · have HR := Lib.hid (show begins (some ⟨n, k, false⟩) ⟨dm, false, dbad, dfs⟩ ps = (0, (ticks (some ⟨n, k, false⟩)).2, ⟨dm, false, dbad, dfs⟩) by
                      have : ps.all okP = true := List.all_eq_true.2 fun p hp => by
                        obtain ⟨i, hi⟩ := List.getElem?_of_mem hp
                        exact hJ.out i (by have := (List.getElem?_eq_some_iff.1 hi).1; omega) p hi
                      rw [begins_on HT.out, if_neg (by simp), if_neg HB.out, this, if_pos rfl])
                    clear hJ
                    go_wp2_with fail
                    go_ret
                    unfold AskOut
                    rw [HR.out]
                    exact ⟨rfl, HZ1.out, H1.out, HG1.out.1, HG1.out.2⟩
end Go.Proofs.Ytnphkddhckcpmaa
