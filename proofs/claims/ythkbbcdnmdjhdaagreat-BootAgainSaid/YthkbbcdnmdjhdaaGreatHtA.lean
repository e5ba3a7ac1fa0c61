/-
  One disk of a pair and its reference: out of the pair's memory and back; a pair's Does, Same.
-/
import Derived.Test.YthkbbcdnmdjhdaaGreatHtP
import Derived.Test.YthkbbcdnmdjhdaaGreatArG
import Derived.Test.YthkbbcdnmdjhdaaGreatRvA
/-! XHtA: One disk of a pair and its reference: out of the pair's memory and back; a pair's Does, Same. -/
namespace Go.Proofs.YthkbbcdnmdjhdaaGreat
open Go.RowKit Dk
set_option maxRecDepth 100000
set_option maxHeartbeats 4000000
attribute [local go_sem] min_int2 max_int2 bstr_toList

theorem set_same {α : Type} {l : List α} {i : Nat} {d : α} (h : l[i]? = some d) : l.set i d = l := by
  refine List.ext_getElem? fun j => ?_
  rw [List.getElem?_set]
  by_cases e : i = j
  · subst e
    rw [if_pos rfl, if_pos (List.getElem?_eq_some_iff.1 h).1, h]
  · rw [if_neg e]
/-- The reference's part of a pair's memory. -/
def restV (P : PA) (s : AS) (Y : Thing) : Thing :=
  (rowT P.pb 36 #[.pointer (some ⟨P.A.ab, 0, none⟩), P.dv, .pointer (some ⟨P.f, 0, none⟩), .pointer (some ⟨P.V.ab, 0, none⟩), .pointer (some ⟨P.g, 0, none⟩)]).star
    ((ownT 42 P.dv (P.A.ss.map sval)).star ((arrT P.A).star ((fuseT (some P.f) s.z).star ((simsT (some P.f) P.A.ss s.ds).star Y))))
theorem memP_inV {P : PA} {s t : AS} {Y : Thing} : (memP P s t Y).Ent (memV P.V (some P.g) t (restV P s Y)) :=
  Thing.Ent.trans (.star (.refl _) (.trans (.star (.refl _) (.trans (.star (.refl _) (.trans (.star (.refl _) memV_in) memV_in)) memV_in)) memV_in)) memV_in
theorem memP_outV {P : PA} {s t : AS} {Y : Thing} : (memV P.V (some P.g) t (restV P s Y)).Ent (memP P s t Y) :=
  Thing.Ent.trans memV_out (.star (.refl _) (.trans memV_out (.star (.refl _) (.trans memV_out (.star (.refl _) (.trans memV_out (.star (.refl _) memV_out)))))))
theorem memP_push {P : PA} {s t : AS} {X Y : Thing} : (X.star (memP P s t Y)).Ent (memP P s t (X.star Y)) :=
  Thing.Ent.trans .swap (.star (.refl _) (.trans .swap (.star (.refl _) (.trans .swap (.star (.refl _) (.trans .swap (.star (.refl _) (.trans .swap (.star (.refl _) (.trans .swap (.star (.refl _) (.trans .swap (.star (.refl _) (.trans .swap (.star (.refl _) (.refl _))))))))))))))))
theorem memP_pull {P : PA} {s t : AS} {X Y : Thing} : (memP P s t (X.star Y)).Ent (X.star (memP P s t Y)) :=
  Thing.Ent.trans (.star (.refl _) (.trans (.star (.refl _) (.trans (.star (.refl _) (.trans (.star (.refl _) (.trans (.star (.refl _) (.trans (.star (.refl _) (.trans (.star (.refl _) (.trans (.star (.refl _) (.refl _)) .swap)) .swap)) .swap)) .swap)) .swap)) .swap)) .swap)) .swap
section
variable {w0 w w' : World} {P : PA} {s t : AS} {Y : Thing} {i sa ra n : Nat}
theorem memP.varr (h : Lab w0 w (memP P s t Y)) : Lab w0 w (rarrT P.V) := (h.ent memP_inV).left
/-- One disk and its reference, with both fuses: out, and back. -/
theorem memP.pair (h : Lab w0 w (memP P s t Y)) (hk : P.A.Ok s) (hv : P.V.Ok t) (hs : P.A.ss[i]? = some sa) (hr : P.V.ss[i]? = some ra) :
    ∃ R, Lab w0 w ((fuseT (some P.f) s.z).star ((simT sa (some P.f) (s.ds.getD i dz)).star ((rfuseT (some P.g) t.z).star ((refT ra (some P.g) (t.ds.getD i dz)).star R)))) ∧
      ∀ W z d z2 d2, Lab w0 W ((fuseT (some P.f) z).star ((simT sa (some P.f) d).star ((rfuseT (some P.g) z2).star ((refT ra (some P.g) d2).star R)))) → Lab w0 W (memP P ⟨z, s.ds.set i d⟩ ⟨z2, t.ds.set i d2⟩ Y) := by
  obtain ⟨d, h1, h2, h3⟩ := hk.sd hs
  obtain ⟨d2, g1, g2, g3⟩ := hv.sd hr
  rw [h2, g2]
  let R1 : Thing := (bigT ((List.zipWith (fun s d => simT s (some P.f) d) P.A.ss s.ds).eraseIdx i))
  let R2 : Thing := (bigT ((List.zipWith (fun s d => refT s (some P.g) d) P.V.ss t.ds).eraseIdx i))
  let Q : Thing := (rowT P.pb 36 #[.pointer (some ⟨P.A.ab, 0, none⟩), P.dv, .pointer (some ⟨P.f, 0, none⟩), .pointer (some ⟨P.V.ab, 0, none⟩), .pointer (some ⟨P.g, 0, none⟩)])
  let O : Thing := (ownT 42 P.dv (P.A.ss.map sval))
  refine ⟨bigT [R2, Y, Q, O, arrT P.A, R1, rarrT P.V], ?_, fun W z e z2 e2 hW => ?_⟩
  · have hm : Lab w0 w (Q.star (O.star ((arrT P.A).star ((fuseT (some P.f) s.z).star ((simsT (some P.f) P.A.ss s.ds).star ((rarrT P.V).star ((rfuseT (some P.g) t.z).star ((refsT (some P.g) P.V.ss t.ds).star Y)))))))) := h
    have e1 : ((simsT (some P.f) P.A.ss s.ds).star ((rarrT P.V).star ((rfuseT (some P.g) t.z).star ((refsT (some P.g) P.V.ss t.ds).star Y)))).Ent ((simT sa (some P.f) d).star (R1.star ((rarrT P.V).star ((rfuseT (some P.g) t.z).star ((refT ra (some P.g) d2).star (R2.star (Y.star emp))))))) :=
      Thing.Ent.trans (.star (simsT.pick hs h1) (.star (.refl _) (.star (.refl _) (.trans (.star (refsT.pick hr g1) .emp) .assoc)))) .assoc
    have hb : Lab w0 w (bigT [Q, O, arrT P.A, fuseT (some P.f) s.z, simT sa (some P.f) d, R1, rarrT P.V, rfuseT (some P.g) t.z, refT ra (some P.g) d2, R2, Y]) := hm.ent (.star (.refl _) (.star (.refl _) (.star (.refl _) (.star (.refl _) e1))))
    exact hb.ix [3, 4, 7, 8, 9, 10, 0, 1, 2, 5, 6] (show List.Perm [3, 4, 7, 8, 9, 10, 0, 1, 2, 5, 6] (List.range 11) by decide)
  · have hb : Lab w0 W (bigT [fuseT (some P.f) z, simT sa (some P.f) e, rfuseT (some P.g) z2, refT ra (some P.g) e2, R2, Y, Q, O, arrT P.A, R1, rarrT P.V]) := hW
    have hd : Lab w0 W (Q.star (O.star ((arrT P.A).star ((fuseT (some P.f) z).star ((simT sa (some P.f) e).star (R1.star ((rarrT P.V).star ((rfuseT (some P.g) z2).star ((refT ra (some P.g) e2).star (R2.star (Y.star emp))))))))))) := hb.ix [6, 7, 8, 0, 1, 9, 10, 2, 3, 4, 5] (show List.Perm [6, 7, 8, 0, 1, 9, 10, 2, 3, 4, 5] (List.range 11) by decide)
    have e1 : ((simT sa (some P.f) e).star (R1.star ((rarrT P.V).star ((rfuseT (some P.g) z2).star ((refT ra (some P.g) e2).star (R2.star (Y.star emp))))))).Ent ((simsT (some P.f) P.A.ss (s.ds.set i e)).star ((rarrT P.V).star ((rfuseT (some P.g) z2).star ((refsT (some P.g) P.V.ss (t.ds.set i e2)).star Y)))) :=
      Thing.Ent.trans .assoc' (.star (simsT.put hs h3) (.star (.refl _) (.star (.refl _) (.trans .assoc' (.star (refsT.put hr g3) .left)))))
    exact hd.ent (.star (.refl _) (.star (.refl _) (.star (.refl _) (.star (.refl _) e1))))
end
theorem psame_any (P : PA) (s : AS) (Y : Thing) (n : Nat) (w0 w : World) (hL : Lab w0 w (memP P s s Y)) (hk : P.A.Ok s) (hv : P.V.Ok s) (hA : ASnd s n) (ha : Alive s) :
    Calls Tryz.prog 39 #[.pointer (some ⟨P.pb, 0, none⟩)] w fun e w' => e = .returned (.bool true) ∧ Lab w0 w' (memP P s s Y) := by
  obtain ⟨⟨zn, zo, zb⟩, hz⟩ := ha
  have HL := Lib.hid hL
  have HK := Lib.hid (And.intro hk (And.intro hv (And.intro hA hz)))
  obtain ⟨m, hm⟩ : ∃ m, P.A.ss.length = m := ⟨_, rfl⟩
  have hvm : P.V.ss.length = m := by rw [← hm, ← hk.len, ← hv.len]
  have hm2 : m ≤ 255 := by rw [← hm, hk.n]; exact hk.n255
  have HM := Lib.hid (And.intro hm hvm)
  have HC := Lib.hid (show ∀ W, Lab w0 W (memP P s s Y) → W.cell? ⟨P.pb, 1, none⟩ = some (.slice (some ⟨P.db, 0, none⟩) m P.dc) ∧ W.cell? ⟨P.pb, 3, none⟩ = some (.pointer (some ⟨P.V.ab, 0, none⟩)) ∧ W.cell? ⟨P.V.ab, 4, none⟩ = some (.slice (some ⟨P.V.gs, 0, none⟩) m P.V.gc) ∧ W.cell? ⟨P.pb, 2, none⟩ = some (.pointer (some ⟨P.f, 0, none⟩)) ∧ W.cell? ⟨P.pb, 4, none⟩ = some (.pointer (some ⟨P.g, 0, none⟩)) ∧ W.cell? ⟨P.g, 1, none⟩ = some (.int .i64 (zo : Nat)) ∧ W.cell? ⟨P.g, 2, none⟩ = some (.bool zb) from fun W h => by
    obtain ⟨-, c1, c2, c3, c4⟩ := memP.cells h
    obtain ⟨-, -, -, -, d4⟩ := rarrT.cells (memP.varr h)
    have hr := h.right.right.right.right.right.right.rz
    rw [HK.out.2.2.2] at hr
    rw [HM.out.1] at c1
    rw [HM.out.2] at d4
    exact ⟨c1, c3, d4, c2, c4, hr.1.cell (i := 1) rfl, hr.1.cell (i := 2) rfl⟩)
  clear hL hk hv hA hz hm hvm
  go_enter Tryz.func39, Tryz.ntmps39
  go_wp2_with fail
  go_loopw [3] (fun v9 wr => ∃ (i : Nat), i ≤ m ∧ v9 = .int .i64 (i : Nat) ∧ Hid (Lab w0 wr (memP P s s Y))) (fun v9 _ => (m - intOf v9).toNat)
  case atStart => exact ⟨0, by omega, rfl, HL⟩
  case round =>
    obtain ⟨i, hi, rfl, HI⟩ := hrel
    obtain ⟨c1, c3, c4, c5, c6, c7, c8⟩ := HC.out _ HI.out
    by_cases hlt : i < m
    · have hlt' : (i : Int) < (m : Int) := by omega
      obtain ⟨sa, hs⟩ : ∃ sa, P.A.ss[i]? = some sa := ⟨_, List.getElem?_eq_getElem (by rw [HM.out.1]; exact hlt)⟩
      obtain ⟨ra, hr⟩ : ∃ ra, P.V.ss[i]? = some ra := ⟨_, List.getElem?_eq_getElem (by rw [HM.out.2]; exact hlt)⟩
      have d1 := memP.sim HI.out hs
      have d2 := rarrT.disk (memP.varr HI.out) hr
      have HP := Lib.hid (memP.pair HI.out.drew HK.out.1 HK.out.2.1 hs hr)
      have F1 : Hid (Calls Tryz.prog 80 #[.pointer (some ⟨sa, 0, none⟩), .pointer (some ⟨ra, 0, none⟩)] wr.drew fun e w' => e = .returned (.bool true) ∧ (fun w' : World => w'.cell? ⟨P.pb, 1, none⟩ = some (.slice (some ⟨P.db, 0, none⟩) m P.dc) ∧ w'.cell? ⟨P.db, i, none⟩ = some (.pointer (some ⟨sa, 0, none⟩)) ∧ w'.cell? ⟨P.pb, 3, none⟩ = some (.pointer (some ⟨P.V.ab, 0, none⟩)) ∧ w'.cell? ⟨P.V.ab, 4, none⟩ = some (.slice (some ⟨P.V.gs, 0, none⟩) m P.V.gc) ∧ w'.cell? ⟨P.V.gs, i, none⟩ = some (.pointer (some ⟨ra, 0, none⟩))) w' ∧ Lab w0 w' (memP P s s Y)) := Lib.hid (by
        obtain ⟨R, h1, h2⟩ := HP.out
        have hd := HK.out.2.2.1.getD i
        refine (dsame_any w0 _ _ sa ra (some P.f) (some P.g) (s.ds.getD i dz) (h1.swap.fourth.swap) hd.len (Nat.le_trans hd.bytes (by decide))).mono ?_
        rintro e w' ⟨k1, k2⟩
        have h3 := h2 _ _ _ _ _ k2.swap.fourth'.swap
        have e1 : s.ds.set i (s.ds.getD i dz) = s.ds := by
          obtain ⟨d, g1, g2, g3⟩ := HK.out.1.sd hs
          rw [g2]
          exact set_same g1
        rw [e1] at h3
        have h4 : Lab w0 w' (memP P s s Y) := h3
        obtain ⟨c1, c3, c4, -⟩ := HC.out _ h4
        exact ⟨k1, ⟨c1, memP.sim h4 hs, c3, c4, rarrT.disk (memP.varr h4) hr⟩, h4⟩)
      have S0 : (fun w' : World => w'.cell? ⟨P.pb, 1, none⟩ = some (.slice (some ⟨P.db, 0, none⟩) m P.dc) ∧ w'.cell? ⟨P.db, i, none⟩ = some (.pointer (some ⟨sa, 0, none⟩)) ∧ w'.cell? ⟨P.pb, 3, none⟩ = some (.pointer (some ⟨P.V.ab, 0, none⟩)) ∧ w'.cell? ⟨P.V.ab, 4, none⟩ = some (.slice (some ⟨P.V.gs, 0, none⟩) m P.V.gc) ∧ w'.cell? ⟨P.V.gs, i, none⟩ = some (.pointer (some ⟨ra, 0, none⟩))) wr.drew := ⟨c1, d1, c3, c4, d2⟩
      clear hs hr c5 c6 c7 c8
      go_wp2_with fail
      go_region_held3 (fun w' : World => w'.cell? ⟨P.pb, 1, none⟩ = some (.slice (some ⟨P.db, 0, none⟩) m P.dc) ∧ w'.cell? ⟨P.db, i, none⟩ = some (.pointer (some ⟨sa, 0, none⟩)) ∧ w'.cell? ⟨P.pb, 3, none⟩ = some (.pointer (some ⟨P.V.ab, 0, none⟩)) ∧ w'.cell? ⟨P.V.ab, 4, none⟩ = some (.slice (some ⟨P.V.gs, 0, none⟩) m P.V.gc) ∧ w'.cell? ⟨P.V.gs, i, none⟩ = some (.pointer (some ⟨ra, 0, none⟩))) (assumption) (first | (go_at_call 80; refine F1.out.mono ?_; rintro e w4 ⟨rfl, hS4, hL4⟩))
      have L4 := Lib.hid hL4
      clear F1 S0 hS4 hL4 c1 c3 c4 d1 d2
      go_wp2_with fail
      exact ⟨⟨i + 1, by omega, by go_num, L4⟩, by simp [intOf]; omega⟩
    · obtain rfl : i = m := by omega
      clear hlt c3 c4
      have FZ := Lib.hid (show ∀ W, Lab w0 W (memP P s s Y) → FzAt W (some P.f) (some ⟨zn, zo, zb⟩) from fun W h => by
        have h1 := h.right.right.right.fz
        rw [HK.out.2.2.2] at h1
        exact h1)
      have SC := Lib.hid (show ∀ W, Lab w0 W (memP P s s Y) → (fun w' : World => w'.cell? ⟨P.pb, 2, none⟩ = some (.pointer (some ⟨P.f, 0, none⟩)) ∧ w'.cell? ⟨P.pb, 4, none⟩ = some (.pointer (some ⟨P.g, 0, none⟩)) ∧ w'.cell? ⟨P.g, 1, none⟩ = some (.int .i64 (zo : Nat)) ∧ w'.cell? ⟨P.g, 2, none⟩ = some (.bool zb)) W from fun W h => (HC.out W h).2.2.2)
      have FO : Hid (∀ W, Lab w0 W (memP P s s Y) → Calls Tryz.prog 81 #[.pointer (some ⟨P.f, 0, none⟩)] W fun e w' => e = .returned (.int .i64 (zo : Nat)) ∧ (fun w' : World => w'.cell? ⟨P.pb, 2, none⟩ = some (.pointer (some ⟨P.f, 0, none⟩)) ∧ w'.cell? ⟨P.pb, 4, none⟩ = some (.pointer (some ⟨P.g, 0, none⟩)) ∧ w'.cell? ⟨P.g, 1, none⟩ = some (.int .i64 (zo : Nat)) ∧ w'.cell? ⟨P.g, 2, none⟩ = some (.bool zb)) w' ∧ Lab w0 w' (memP P s s Y)) := Lib.hid fun W h => (ops_any P.f _ _ (FZ.out _ h)).mono fun e w' ⟨h1, h2⟩ => by subst h2; exact ⟨h1, SC.out _ h, h⟩
      have FB : Hid (∀ W, Lab w0 W (memP P s s Y) → Calls Tryz.prog 82 #[.pointer (some ⟨P.f, 0, none⟩)] W fun e w' => e = .returned (.bool zb) ∧ (fun w' : World => w'.cell? ⟨P.pb, 2, none⟩ = some (.pointer (some ⟨P.f, 0, none⟩)) ∧ w'.cell? ⟨P.pb, 4, none⟩ = some (.pointer (some ⟨P.g, 0, none⟩)) ∧ w'.cell? ⟨P.g, 1, none⟩ = some (.int .i64 (zo : Nat)) ∧ w'.cell? ⟨P.g, 2, none⟩ = some (.bool zb)) w' ∧ Lab w0 w' (memP P s s Y)) := Lib.hid fun W h => (blown_any P.f _ _ (FZ.out _ h)).mono fun e w' ⟨h1, h2⟩ => by subst h2; exact ⟨h1, SC.out _ h, h⟩
      have x0 := HI.out.drew
      have S0 : (fun w' : World => w'.cell? ⟨P.pb, 2, none⟩ = some (.pointer (some ⟨P.f, 0, none⟩)) ∧ w'.cell? ⟨P.pb, 4, none⟩ = some (.pointer (some ⟨P.g, 0, none⟩)) ∧ w'.cell? ⟨P.g, 1, none⟩ = some (.int .i64 (zo : Nat)) ∧ w'.cell? ⟨P.g, 2, none⟩ = some (.bool zb)) wr.drew := SC.out _ x0
      clear c5 c6 c7 c8
      go_wp2_with fail
      go_region_held3 (fun w' : World => w'.cell? ⟨P.pb, 2, none⟩ = some (.pointer (some ⟨P.f, 0, none⟩)) ∧ w'.cell? ⟨P.pb, 4, none⟩ = some (.pointer (some ⟨P.g, 0, none⟩)) ∧ w'.cell? ⟨P.g, 1, none⟩ = some (.int .i64 (zo : Nat)) ∧ w'.cell? ⟨P.g, 2, none⟩ = some (.bool zb)) (assumption) (first | (go_at_call 81; refine (FO.out _ x0).mono ?_; rintro e w4 ⟨rfl, hS4, hL4⟩) | (go_at_call 82; refine (FB.out _ hL4).mono ?_; rintro e w5 ⟨rfl, hS5, hL5⟩))
      have L5 := Lib.hid hL5
      clear hS4 hL4 hS5 hL5 x0 S0 FO FB
      go_wp2_with fail
      go_ret
      exact ⟨by simp, L5.out⟩
theorem pdoes_any (P : PA) (s : AS) (Y : Thing) (n : Nat) (x : Hit) (da : Option Addr) (dc : Nat) (w0 w : World) (hL : Lab w0 w (memP P s s Y)) (hk : P.A.Ok s) (hv : P.V.Ok s) (hA : ASnd s n) (hn : n < 1000000000) (ha : Alive s) (hx : x.ok) (h1 : x.d.a.length ≤ 100000) (h2 : x.d.b.length ≤ 100000) (h3 : x.d.data.length ≤ 100000) (hD : Bytes w0 (.slice da x.d.data.length dc) x.d.data) :
    Calls Tryz.prog 38 #[.pointer (some ⟨P.pb, 0, none⟩), .agg #[.int .i64 x.at_, .int .i64 x.d.act, .int .i64 x.d.n, .string (bstr x.d.a), .string (bstr x.d.b), .slice da x.d.data.length dc]] w fun e w' => e = .returned (.bool true) ∧ Lab w0 w' (memP P (s.does x) (s.does x) Y) := by
  obtain ⟨xi, xd⟩ := x
  obtain ⟨xact, xn, xa, xb, xt⟩ := xd
  obtain ⟨⟨zn, zo, zb⟩, hz⟩ := ha
  simp only at h1 h2 h3 hD ⊢
  have hl1 := hL.newrow 76 #[.int .i64 xi, .int .i64 xact, .int .i64 xn, .string (bstr xa), .string (bstr xb), .slice da xt.length dc]
  obtain ⟨hb, hhb⟩ : ∃ hb, w.heap.size = hb := ⟨_, rfl⟩
  obtain ⟨w1, hw1⟩ : ∃ w1, w.alloc (.cells #[.int .i64 xi, .int .i64 xact, .int .i64 xn, .string (bstr xa), .string (bstr xb), .slice da xt.length dc] 76) = w1 := ⟨_, rfl⟩
  rw [hhb, hw1] at hl1
  have HL := Lib.hid (hl1.ent memP_push)
  have HK := Lib.hid (And.intro hk (And.intro hv (And.intro hA hz)))
  have HX := Lib.hid (And.intro hx (And.intro h1 (And.intro h2 (And.intro h3 hD))))
  have r0 := (rowT.row hl1.left).cell (i := 0) (v := .int .i64 xi) rfl
  have r1 := (rowT.row hl1.left).cell (i := 1) (v := .int .i64 xact) rfl
  have r2 := (rowT.row hl1.left).cell (i := 2) (v := .int .i64 xn) rfl
  have r3 := (rowT.row hl1.left).cell (i := 3) (v := .string (bstr xa)) rfl
  have r4 := (rowT.row hl1.left).cell (i := 4) (v := .string (bstr xb)) rfl
  have r5 := (rowT.row hl1.left).cell (i := 5) (v := .slice da xt.length dc) rfl
  obtain ⟨m, hm⟩ : ∃ m, P.A.ss.length = m := ⟨_, rfl⟩
  have hvm : P.V.ss.length = m := by rw [← hm, ← hk.len, ← hv.len]
  have hsm : s.ds.length = m := by rw [hk.len, hm]
  have HM := Lib.hid (And.intro hm (And.intro hvm hsm))
  have hm2 : m ≤ 255 := by rw [← hm, hk.n]; exact hk.n255
  have HW := Lib.hid (And.intro hw1 hhb)
  obtain ⟨-, c1, c2, c3, -⟩ := memP.cells HL.out
  rw [hm] at c1
  clear hl1 hL hk hv hA hz hm hvm hsm hx h1 h2 h3 hD hw1 hhb
  go_enter Tryz.func38, Tryz.ntmps38
  by_cases hr : 0 ≤ xi ∧ xi < m
  case neg =>
    have HD := Lib.hid (show s.does ⟨xi, ⟨xact, xn, xa, xb, xt⟩⟩ = s by unfold AS.does; rw [if_neg (by simp only; rw [HM.out.2.2]; exact hr)])
    by_cases h0 : xi < 0
    · clear hr
      go_wp2_with fail
      rw [HW.out.1, HW.out.2]
      go_quiet (fail)
      have LQ := Lib.hid (HL.out.ext (Ext.of_drawn w1 nq))
      generalize w1.drewN nq = w2 at LQ ⊢
      go_wp2_with fail
      go_ret
      rw [HD.out]
      exact ⟨rfl, (LQ.out.ent memP_pull).right⟩
    · have q1 : (m : Int) ≤ xi := by omega
      have q0 : 0 ≤ xi := by omega
      clear hr h0
      go_wp2_with fail
      rw [HW.out.1, HW.out.2]
      go_quiet (fail)
      have LQ := Lib.hid (HL.out.ext (Ext.of_drawn w1 nq))
      generalize w1.drewN nq = w2 at LQ ⊢
      go_wp2_with fail
      go_ret
      rw [HD.out]
      exact ⟨rfl, (LQ.out.ent memP_pull).right⟩
  obtain ⟨i, rfl⟩ := Int.eq_ofNat_of_zero_le hr.1
  have hlt : i < m := by omega
  have q1 : (i : Int) < (m : Int) := hr.2
  have q0 : 0 ≤ (i : Int) := hr.1
  obtain ⟨sa, hs⟩ : ∃ sa, P.A.ss[i]? = some sa := ⟨_, List.getElem?_eq_getElem (by rw [HM.out.1]; exact hlt)⟩
  obtain ⟨ra, hra⟩ : ∃ ra, P.V.ss[i]? = some ra := ⟨_, List.getElem?_eq_getElem (by rw [HM.out.2.1]; exact hlt)⟩
  have HS := Lib.hid (And.intro hs hra)
  have SC := Lib.hid (show ∀ W s', Lab w0 W (memP P s' s' ((rowT hb 76 #[.int .i64 (i : Nat), .int .i64 xact, .int .i64 xn, .string (bstr xa), .string (bstr xb), .slice da xt.length dc]).star Y)) → (fun w' : World => w'.cell? ⟨hb, 0, none⟩ = some (.int .i64 (i : Nat)) ∧ w'.cell? ⟨hb, 1, none⟩ = some (.int .i64 xact) ∧ w'.cell? ⟨hb, 2, none⟩ = some (.int .i64 xn) ∧ w'.cell? ⟨hb, 3, none⟩ = some (.string (bstr xa)) ∧ w'.cell? ⟨hb, 4, none⟩ = some (.string (bstr xb)) ∧ w'.cell? ⟨hb, 5, none⟩ = some (.slice da xt.length dc) ∧ w'.cell? ⟨P.pb, 1, none⟩ = some (.slice (some ⟨P.db, 0, none⟩) m P.dc) ∧ w'.cell? ⟨P.pb, 2, none⟩ = some (.pointer (some ⟨P.f, 0, none⟩)) ∧ w'.cell? ⟨P.pb, 3, none⟩ = some (.pointer (some ⟨P.V.ab, 0, none⟩)) ∧ w'.cell? ⟨P.db, i, none⟩ = some (.pointer (some ⟨sa, 0, none⟩)) ∧ w'.cell? ⟨P.V.ab, 4, none⟩ = some (.slice (some ⟨P.V.gs, 0, none⟩) m P.V.gc) ∧ w'.cell? ⟨P.V.gs, i, none⟩ = some (.pointer (some ⟨ra, 0, none⟩))) W from fun W s' h => by
    obtain ⟨-, d1, d2, d3, -⟩ := memP.cells h
    obtain ⟨-, -, -, -, d4⟩ := rarrT.cells (memP.varr h)
    have hrow := rowT.row (h.ent memP_pull).left
    rw [HM.out.1] at d1
    rw [HM.out.2.1] at d4
    exact ⟨hrow.cell (i := 0) rfl, hrow.cell (i := 1) rfl, hrow.cell (i := 2) rfl, hrow.cell (i := 3) rfl, hrow.cell (i := 4) rfl, hrow.cell (i := 5) rfl, d1, d2, d3, memP.sim h HS.out.1, d4, rarrT.disk (memP.varr h) HS.out.2⟩)
  have HD := Lib.hid (show s.does ⟨(i : Nat), ⟨xact, xn, xa, xb, xt⟩⟩ = s.deed i ⟨xact, xn, xa, xb, xt⟩ by unfold AS.does; rw [if_pos (by simp only; rw [HM.out.2.2]; exact hr)]; rfl)
  have F1 : Hid (∀ W, Lab w0 W (memP P s s ((rowT hb 76 #[.int .i64 (i : Nat), .int .i64 xact, .int .i64 xn, .string (bstr xa), .string (bstr xb), .slice da xt.length dc]).star Y)) → Calls Tryz.prog 79 #[.pointer (some ⟨sa, 0, none⟩), .pointer (some ⟨P.f, 0, none⟩), .pointer (some ⟨ra, 0, none⟩), .agg #[.int .i64 xact, .int .i64 xn, .string (bstr xa), .string (bstr xb), .slice da xt.length dc]] W fun e w' => e = .returned (.bool true) ∧ (fun w' : World => w'.cell? ⟨hb, 0, none⟩ = some (.int .i64 (i : Nat)) ∧ w'.cell? ⟨hb, 1, none⟩ = some (.int .i64 xact) ∧ w'.cell? ⟨hb, 2, none⟩ = some (.int .i64 xn) ∧ w'.cell? ⟨hb, 3, none⟩ = some (.string (bstr xa)) ∧ w'.cell? ⟨hb, 4, none⟩ = some (.string (bstr xb)) ∧ w'.cell? ⟨hb, 5, none⟩ = some (.slice da xt.length dc) ∧ w'.cell? ⟨P.pb, 1, none⟩ = some (.slice (some ⟨P.db, 0, none⟩) m P.dc) ∧ w'.cell? ⟨P.pb, 2, none⟩ = some (.pointer (some ⟨P.f, 0, none⟩)) ∧ w'.cell? ⟨P.pb, 3, none⟩ = some (.pointer (some ⟨P.V.ab, 0, none⟩)) ∧ w'.cell? ⟨P.db, i, none⟩ = some (.pointer (some ⟨sa, 0, none⟩)) ∧ w'.cell? ⟨P.V.ab, 4, none⟩ = some (.slice (some ⟨P.V.gs, 0, none⟩) m P.V.gc) ∧ w'.cell? ⟨P.V.gs, i, none⟩ = some (.pointer (some ⟨ra, 0, none⟩))) w' ∧
      Lab w0 w' (memP P (s.deed i ⟨xact, xn, xa, xb, xt⟩) (s.deed i ⟨xact, xn, xa, xb, xt⟩) ((rowT hb 76 #[.int .i64 (i : Nat), .int .i64 xact, .int .i64 xn, .string (bstr xa), .string (bstr xb), .slice da xt.length dc]).star Y))) := Lib.hid fun W hW => by
    obtain ⟨R, g1, g2⟩ := memP.pair hW HK.out.1 HK.out.2.1 HS.out.1 HS.out.2
    have hd := HK.out.2.2.1.getD i
    have ho := HK.out.2.2.1.ops
    by_cases hact : 0 ≤ xact ∧ xact ≤ 6
    · refine (both_any w0 W R sa ra (some P.f) (some P.g) _ s.z (s.ds.getD i dz) ⟨xact, xn, xa, xb, xt⟩ da dc g1 hact (Nat.le_trans HX.out.2.1 (by decide)) (Nat.le_trans HX.out.2.2.1 (by decide)) HX.out.2.2.2.2 (Nat.le_trans HX.out.2.2.2.1 (by decide)) (by omega) hd.len (Nat.le_trans hd.bytes (by decide))).mono ?_
      rintro e w' ⟨k1, k2⟩
      have k3 := g2 _ _ _ _ _ k2
      have e1 : s.deed i ⟨xact, xn, xa, xb, xt⟩ = ⟨(stepB s.z (s.ds.getD i dz) ⟨xact, xn, xa, xb, xt⟩).1, s.ds.set i (stepB s.z (s.ds.getD i dz) ⟨xact, xn, xa, xb, xt⟩).2⟩ := by unfold AS.deed; rw [if_pos hact]
      rw [← e1] at k3
      exact ⟨k1, SC.out _ _ k3, k3⟩
    · rw [HK.out.2.2.2] at g1
      refine (both_more w0 W R sa ra P.f P.g ⟨zn, zo, zb⟩ (s.ds.getD i dz) ⟨xact, xn, xa, xb, xt⟩ da dc g1 hact HX.out.1.2.2.1 (Nat.le_trans HX.out.2.1 (by decide)) (Nat.le_trans HX.out.2.2.1 (by decide)) HX.out.2.2.2.2 (Nat.le_trans HX.out.2.2.2.1 (by decide)) hd.len (Nat.le_trans hd.bytes (by decide))).mono ?_
      rintro e w' ⟨k1, k2⟩
      have k3 := g2 _ _ _ _ _ k2
      have e1 : s.deed i ⟨xact, xn, xa, xb, xt⟩ = ⟨some (stepC ⟨zn, zo, zb⟩ (s.ds.getD i dz) ⟨xact, xn, xa, xb, xt⟩).1, s.ds.set i (stepC ⟨zn, zo, zb⟩ (s.ds.getD i dz) ⟨xact, xn, xa, xb, xt⟩).2⟩ := by unfold AS.deed; rw [if_neg hact, HK.out.2.2.2]
      rw [← e1] at k3
      exact ⟨k1, SC.out _ _ k3, k3⟩
  clear hr hs hra r1 r2 r3 r4 r5 c2 c3
  go_wp2_with fail
  rw [HW.out.1, HW.out.2]
  go_quiet (fail)
  have LQ := Lib.hid (HL.out.ext (Ext.of_drawn w1 nq))
  generalize w1.drewN nq = w2 at LQ ⊢
  have x0 := LQ.out.drew
  have S0 : (fun w' : World => w'.cell? ⟨hb, 0, none⟩ = some (.int .i64 (i : Nat)) ∧ w'.cell? ⟨hb, 1, none⟩ = some (.int .i64 xact) ∧ w'.cell? ⟨hb, 2, none⟩ = some (.int .i64 xn) ∧ w'.cell? ⟨hb, 3, none⟩ = some (.string (bstr xa)) ∧ w'.cell? ⟨hb, 4, none⟩ = some (.string (bstr xb)) ∧ w'.cell? ⟨hb, 5, none⟩ = some (.slice da xt.length dc) ∧ w'.cell? ⟨P.pb, 1, none⟩ = some (.slice (some ⟨P.db, 0, none⟩) m P.dc) ∧ w'.cell? ⟨P.pb, 2, none⟩ = some (.pointer (some ⟨P.f, 0, none⟩)) ∧ w'.cell? ⟨P.pb, 3, none⟩ = some (.pointer (some ⟨P.V.ab, 0, none⟩)) ∧ w'.cell? ⟨P.db, i, none⟩ = some (.pointer (some ⟨sa, 0, none⟩)) ∧ w'.cell? ⟨P.V.ab, 4, none⟩ = some (.slice (some ⟨P.V.gs, 0, none⟩) m P.V.gc) ∧ w'.cell? ⟨P.V.gs, i, none⟩ = some (.pointer (some ⟨ra, 0, none⟩))) w2.drew := SC.out _ _ x0
  clear r0 c1
  go_wp2_with fail
  go_region_held3 (fun w' : World => w'.cell? ⟨hb, 0, none⟩ = some (.int .i64 (i : Nat)) ∧ w'.cell? ⟨hb, 1, none⟩ = some (.int .i64 xact) ∧ w'.cell? ⟨hb, 2, none⟩ = some (.int .i64 xn) ∧ w'.cell? ⟨hb, 3, none⟩ = some (.string (bstr xa)) ∧ w'.cell? ⟨hb, 4, none⟩ = some (.string (bstr xb)) ∧ w'.cell? ⟨hb, 5, none⟩ = some (.slice da xt.length dc) ∧ w'.cell? ⟨P.pb, 1, none⟩ = some (.slice (some ⟨P.db, 0, none⟩) m P.dc) ∧ w'.cell? ⟨P.pb, 2, none⟩ = some (.pointer (some ⟨P.f, 0, none⟩)) ∧ w'.cell? ⟨P.pb, 3, none⟩ = some (.pointer (some ⟨P.V.ab, 0, none⟩)) ∧ w'.cell? ⟨P.db, i, none⟩ = some (.pointer (some ⟨sa, 0, none⟩)) ∧ w'.cell? ⟨P.V.ab, 4, none⟩ = some (.slice (some ⟨P.V.gs, 0, none⟩) m P.V.gc) ∧ w'.cell? ⟨P.V.gs, i, none⟩ = some (.pointer (some ⟨ra, 0, none⟩))) (assumption) (first | (go_at_call 79; refine (F1.out _ x0).mono ?_; rintro e w4 ⟨rfl, hS4, hL4⟩))
  have L4 := Lib.hid hL4
  clear hS4 hL4 x0 S0 F1
  go_wp2_with fail
  go_ret
  rw [HD.out]
  exact ⟨rfl, (L4.out.ent memP_pull).right⟩
end Go.Proofs.YthkbbcdnmdjhdaaGreat
