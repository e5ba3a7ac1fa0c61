/-
  strongboxlaw12.Make.
-/
import Derived.Test.YthkbbcdnmdjhdaaGreatArE
/-! XArF: strongboxlaw12.Make. -/
namespace Go.Proofs.YthkbbcdnmdjhdaaGreat
open Go.RowKit Dk
set_option maxRecDepth 100000
set_option maxHeartbeats 4000000
attribute [local go_sem] min_int2 max_int2 bstr_toList

def sval (s : Nat) : Value := .pointer (some ⟨s, 0, none⟩)
theorem info_sim : (Tryz.prog.info? 42).map (fun i => (i.zero, i.size, i.bytes)) = some (some (.pointer none), 1, 8) := by kernel_rfl
theorem info_ref : (Tryz.prog.info? 140).map (fun i => (i.zero, i.size, i.bytes)) = some (some (.pointer none), 1, 8) := by kernel_rfl
/-- The memory of Make on its way. -/
def mkM (pb f g bb : Nat) (K M : Nat) (B : Int) (d0 : DS) (pv dv lv mv : Value) (sD sL sS rM rS : List Nat) (Y : Thing) : List Thing :=
  [rowT pb 36 #[.pointer none, pv, .pointer (some ⟨f, 0, none⟩), .pointer none, .pointer (some ⟨g, 0, none⟩)], ownT 42 dv (sD.map sval), ownT 156 lv (sL.map dval), ownT 140 mv (rM.map rval),
   fuseT (some f) (some ⟨0, 0, false⟩), simsT (some f) sS (sS.map fun _ => d0), rfuseT (some g) (some ⟨0, 0, false⟩), refsT (some g) rS (rS.map fun _ => d0), rowT bb 23 #[.int .i64 K, .int .i64 M, .int .i64 B], Y]
section
variable {w0 w w' : World} {pb f g bb K M : Nat} {B : Int} {d0 : DS} {pv dv lv mv : Value} {sD sL sS rM rS : List Nat} {Y : Thing}
theorem mkM.pair (h : Lab w0 w (bigT (mkM pb f g bb K M B d0 pv dv lv mv sD sL sS rM rS Y))) : Row w pb 36 #[.pointer none, pv, .pointer (some ⟨f, 0, none⟩), .pointer none, .pointer (some ⟨g, 0, none⟩)] := rowT.row (h.pk 0 rfl).left
theorem mkM.box (h : Lab w0 w (bigT (mkM pb f g bb K M B d0 pv dv lv mv sD sL sS rM rS Y))) : Row w bb 23 #[.int .i64 K, .int .i64 M, .int .i64 B] := rowT.row (h.pk 8 rfl).left
theorem map_snoc {α β : Type} (f : α → β) (l : List α) (x : α) : (l ++ [x]).map f = l.map f ++ [f x] := by simp
theorem mkM.newdisk (n : Int) (hd : d0 = ⟨mostOf n, false, 0, []⟩) (h : Lab w0 w (bigT (mkM pb f g bb K M B d0 pv dv lv mv sD sL sS rM rS Y))) :
    Calls Tryz.prog 67 #[.int .i64 n, .pointer (some ⟨f, 0, none⟩)] w fun e w' => ∃ s, e = .returned (.pointer (some ⟨s, 0, none⟩)) ∧ Lab w0 w' (bigT (mkM pb f g bb K M B d0 pv dv lv mv sD sL (sS ++ [s]) rM rS Y)) := by
  refine (Lab.newdisk n (h.pk2 4 4 (X := fuseT (some f) (some ⟨0, 0, false⟩)) (Y := simsT (some f) sS (sS.map fun _ => d0)) rfl rfl)).mono ?_
  rintro e w' ⟨s, rfl, hL⟩
  refine ⟨s, rfl, ?_⟩
  rw [← hd] at hL
  have h2 := hL.ent (.star (.refl _) (Thing.Ent.assoc'.trans (.star (simsT.app (d := d0) (by simp)) (.refl _))))
  rw [← map_snoc (fun _ => d0)] at h2
  exact (h2.bk2 (by show 4 < 9; decide)).bk (l := mkM pb f g bb K M B d0 pv dv lv mv sD sL (sS ++ [s]) rM rS Y) (i := 4) (by show 4 < 10; decide)
theorem mkM.newref (n : Int) (hd : d0 = ⟨mostOf n, false, 0, []⟩) (h : Lab w0 w (bigT (mkM pb f g bb K M B d0 pv dv lv mv sD sL sS rM rS Y))) :
    Calls Tryz.prog 68 #[.int .i64 n, .pointer (some ⟨g, 0, none⟩)] w fun e w' => ∃ r, e = .returned (.pointer (some ⟨r, 0, none⟩)) ∧ Lab w0 w' (bigT (mkM pb f g bb K M B d0 pv dv lv mv sD sL sS rM (rS ++ [r]) Y)) := by
  refine (Lab.newref n (h.pk2 6 6 (X := rfuseT (some g) (some ⟨0, 0, false⟩)) (Y := refsT (some g) rS (rS.map fun _ => d0)) rfl rfl)).mono ?_
  rintro e w' ⟨s, rfl, hL⟩
  refine ⟨s, rfl, ?_⟩
  rw [← hd] at hL
  have h2 := hL.ent (.star (.refl _) (Thing.Ent.assoc'.trans (.star (refsT.app (d := d0) (by simp)) (.refl _))))
  rw [← map_snoc (fun _ => d0)] at h2
  exact (h2.bk2 (by show 6 < 9; decide)).bk (l := mkM pb f g bb K M B d0 pv dv lv mv sD sL sS rM (rS ++ [s]) Y) (i := 6) (by show 6 < 10; decide)
theorem mkM.store (h : Lab w0 w (bigT (mkM pb f g bb K M B d0 pv dv lv mv sD sL sS rM rS Y))) (u : Value) : Lab w0 (w.setCell ⟨pb, 1, none⟩ u) (bigT (mkM pb f g bb K M B d0 u dv lv mv sD sL sS rM rS Y)) :=
  ((h.pk 0 (X := rowT pb 36 #[.pointer none, pv, .pointer (some ⟨f, 0, none⟩), .pointer none, .pointer (some ⟨g, 0, none⟩)]) rfl).rset 1 u).bk (l := mkM pb f g bb K M B d0 u dv lv mv sD sL sS rM rS Y) (i := 0) (by show 0 < 10; decide)
end
/-- Where a pair lies. -/
structure PA where
  pb : Nat
  f : Nat
  g : Nat
  db : Nat
  dc : Nat
  A : AA
  V : AA
def PA.dv (P : PA) : Value := .slice (some ⟨P.db, 0, none⟩) P.A.ss.length P.dc
/-- A pair's memory: the array, the model's, the rest. -/
def memP (P : PA) (s t : AS) (Y : Thing) : Thing :=
  (rowT P.pb 36 #[.pointer (some ⟨P.A.ab, 0, none⟩), P.dv, .pointer (some ⟨P.f, 0, none⟩), .pointer (some ⟨P.V.ab, 0, none⟩), .pointer (some ⟨P.g, 0, none⟩)]).star
    ((ownT 42 P.dv (P.A.ss.map sval)).star (memA P.A (some P.f) s ((rarrT P.V).star ((rfuseT (some P.g) t.z).star ((refsT (some P.g) P.V.ss t.ds).star Y)))))
/-- A shape that Make takes. -/
structure MkOk (sk sm sb : Int) : Prop where
  k1 : 1 ≤ sk
  k2 : sk ≤ 12
  m1 : 1 ≤ sm
  m2 : sm ≤ 12
  b1 : 16 ≤ sb
  b2 : sb ≤ 4096
/-- Blank disks. -/
def blanks (n : Nat) (most : Int) : AS := ⟨some ⟨0, 0, false⟩, List.replicate n ⟨mostOf most, false, 0, []⟩⟩
/-- What Make says of what it made. -/
structure MP (sk sm sb : Int) (P : PA) (K M B : Nat) : Prop where
  k : sk = K
  m : sm = M
  b : sb = B
  k1 : 1 ≤ K
  k2 : K ≤ 12
  m1 : 1 ≤ M
  m2 : M ≤ 12
  b1 : 16 ≤ B
  b2 : B ≤ 4096
  aK : P.A.K = K
  aM : P.A.M = M
  aB : P.A.B = B
  an : P.A.ss.length = K + M
  vK : P.V.K = K
  vM : P.V.M = M
  vB : P.V.B = B
  vn : P.V.ss.length = K + M
theorem MP.ok {sk sm sb : Int} {P : PA} {K M B : Nat} (h : MP sk sm sb P K M B) {s : AS} (hs : s.ds.length = K + M) : P.A.Ok s :=
  ⟨by rw [h.aK]; exact h.k1, by rw [h.aM]; exact h.m1, by rw [h.aK, h.aM, h.an], by rw [h.aK, h.aM]; have := h.k2; have := h.m2; omega, by rw [hs, h.an]⟩
theorem MP.okb {sk sm sb most : Int} {P : PA} {K M B : Nat} (h : MP sk sm sb P K M B) : P.A.Ok (blanks (K + M) most) := h.ok (by unfold blanks; simp)
def MadeP (sk sm sb most : Int) (w0 : World) (Y : Thing) (e : Ending) (w' : World) : Prop :=
  ∃ P : PA, ∃ K M B : Nat, MP sk sm sb P K M B ∧ e = .returned (.pointer (some ⟨P.pb, 0, none⟩)) ∧ Lab w0 w' (memP P (blanks (K + M) most) (blanks (K + M) most) Y)
theorem make_bad (sk sm sb most : Int) (h : ¬ (1 ≤ sk ∧ sk ≤ 12 ∧ 1 ≤ sm ∧ sm ≤ 12)) (w : World) :
    Calls Tryz.prog 27 #[.agg #[.int .i64 sk, .int .i64 sm, .int .i64 sb], .int .i64 most] w fun e w' => e = .returned (.pointer none) ∧ Ext w w' := by
  have key : sk < 1 ∨ (1 ≤ sk ∧ sm < 1) ∨ (1 ≤ sk ∧ 1 ≤ sm ∧ 12 < sk) ∨ (1 ≤ sk ∧ 1 ≤ sm ∧ sk ≤ 12 ∧ 12 < sm) := by omega
  have hx1 := Lib.hid (show Ext w (w.alloc (.cells #[.int .i64 sk, .int .i64 sm, .int .i64 sb] 23)) from (Ext.refl w).alloc (Nat.le_refl _) _)
  clear h
  rcases key with h1 | ⟨h1, h2⟩ | ⟨h1, h2, h3⟩ | ⟨h1, h2, h3, h4⟩
  all_goals
    go_enter Tryz.func27, Tryz.ntmps27
    go_wp2_with fail
    go_ret
    exact ⟨rfl, hx1.out⟩
theorem make_any (sk sm sb most : Int) (h : 1 ≤ sk ∧ sk ≤ 12 ∧ 1 ≤ sm ∧ sm ≤ 12) (w0 w : World) (Y : Thing) (hL : Lab w0 w Y) :
    Calls Tryz.prog 27 #[.agg #[.int .i64 sk, .int .i64 sm, .int .i64 sb], .int .i64 most] w fun e w' => (¬ MkOk sk sm sb ∧ e = .returned (.pointer none) ∧ Ext w0 w') ∨ MadeP sk sm sb most w0 Y e w' := by
  obtain ⟨h1, h2, h3, h4⟩ := h
  obtain ⟨K, rfl⟩ := Int.eq_ofNat_of_zero_le (show 0 ≤ sk by omega)
  obtain ⟨M, rfl⟩ := Int.eq_ofNat_of_zero_le (show 0 ≤ sm by omega)
  obtain ⟨q, hq⟩ : ∃ q, K + M = q := ⟨_, rfl⟩
  have hqi : (K : Int) + (M : Int) = (q : Int) := by omega
  have hq2 : q ≤ 24 := by omega
  have HQ := Lib.hid hq
  have HL := Lib.hid hL
  obtain ⟨d0, hd0⟩ : ∃ d0 : DS, d0 = ⟨mostOf most, false, 0, []⟩ := ⟨_, rfl⟩
  have HD := Lib.hid hd0
  have hL1 := hL.newrow 23 #[.int .i64 K, .int .i64 M, .int .i64 sb]
  obtain ⟨bb, hbb⟩ : ∃ bb, w.heap.size = bb := ⟨_, rfl⟩
  clear hL hq hd0
  go_enter Tryz.func27, Tryz.ntmps27
  rw [hbb] at hL1
  have c0 := (rowT.row hL1.left).cell (i := 0) (v := .int .i64 K) rfl
  have c1 := (rowT.row hL1.left).cell (i := 1) (v := .int .i64 M) rfl
  go_wp2_with fail
  refine (Lab.newfuse hL1).mono ?_; rintro e w2 ⟨f, rfl, hL⟩
  have L2 := Lib.hid hL
  have hr := Row.new w2 147 #[.int .i64 0, .int .i64 0, .bool false]
  have hx2 : Ext w2 (w2.alloc (.cells #[.int .i64 0, .int .i64 0, .bool false] 147)) := (Ext.refl w2).alloc (Nat.le_refl _) _
  have hL3 := hL.new hx2 (X := rfuseT (some w2.heap.size) (some ⟨0, 0, false⟩)) (T := fun b => some w2.heap.size = some b) ⟨⟨hr, by decide, by decide⟩, fun _ => Iff.rfl⟩ (fun _ hb => by cases hb; exact Nat.le_refl _)
  have hL4 := hL3.newrow 36 #[.pointer none, .slice none 0 0, .pointer (some ⟨f, 0, none⟩), .pointer none, .pointer (some ⟨w2.heap.size, 0, none⟩)]
  have hL5 := ((ownT.nil 42 (ownT.nil 156 (ownT.nil 140 hL4))).addemp).addemp
  have hL6 : Lab w0 _ (bigT [emp, emp, ownT 42 (.slice none 0 0) [], ownT 156 (.slice none 0 0) [], ownT 140 (.slice none 0 0) [], _, _, _, _, Y]) := hL5.ent (.star (.refl _) (.star (.refl _) (.star (.refl _) (.star (.refl _) (.star (.refl _) (.star (.refl _) (.star (.refl _) (.star (.refl _) (.star (.refl _) .emp)))))))))
  have hL7 := hL6.ix [5, 2, 3, 4, 7, 0, 6, 1, 8, 9] (by show List.Perm _ (List.range 10); decide)
  obtain ⟨g, hg⟩ : ∃ g, w2.heap.size = g := ⟨_, rfl⟩
  have ez : (w2.alloc (.cells #[.int .i64 0, .int .i64 0, .bool false] 147)).heap.size = g + 1 := by rw [← hg]; simp
  rw [ez, hg] at hL7
  have LI := Lib.hid (show Lab w0 _ (bigT (mkM (g + 1) f g bb K M sb d0 (.slice none 0 0) (.slice none 0 0) (.slice none 0 0) (.slice none 0 0) [] [] [] [] [] Y)) from hL7)
  clear hL hr hx2 hL3 hL4 hL5 hL6 hL7 ez hL1 c0 c1 L2
  obtain ⟨pb, hpb⟩ : ∃ pb, g + 1 = pb := ⟨_, rfl⟩
  rw [hpb] at LI
  go_wp2_with fail
  generalize (w2.alloc (.cells #[.int .i64 0, .int .i64 0, .bool false] 147)).alloc (.cells #[.pointer none, .slice none 0 0, .pointer (some ⟨f, 0, none⟩), .pointer none, .pointer (some ⟨g, 0, none⟩)] 36) = w3 at LI ⊢
  clear hpb hg hbb
  go_loopw [6, 7, 8] (fun v6 v7 v8 wr => ∃ (i : Nat) (ss rs : List Nat) (da la ma : Option Addr) (dc lc mc : Nat), i ≤ q ∧ v8 = .int .i64 (i : Nat) ∧ v6 = .slice la i lc ∧ v7 = .slice ma i mc ∧ Hid (ss.length = i ∧ rs.length = i) ∧ Hid (Lab w0 wr (bigT (mkM pb f g bb K M sb d0 (.slice da i dc) (.slice da i dc) (.slice la i lc) (.slice ma i mc) ss ss ss rs rs Y)))) (fun _ _ v8 _ => (q - intOf v8).toNat)
  case atStart => exact ⟨0, [], [], none, none, none, 0, 0, 0, by omega, rfl, rfl, rfl, Lib.hid ⟨rfl, rfl⟩, LI⟩
  case round =>
    obtain ⟨i, ss, rs, da, la, ma, dc, lc, mc, hi, rfl, rfl, rfl, HS, HI⟩ := hrel
    have c0 := (mkM.box HI.out).cell (i := 0) (v := .int .i64 K) rfl
    have c1 := (mkM.box HI.out).cell (i := 1) (v := .int .i64 M) rfl
    by_cases hlt : i < q
    · have hlt' : (i : Int) < (q : Int) := by omega
      have p2 := (mkM.pair HI.out).cell (i := 2) (v := .pointer (some ⟨f, 0, none⟩)) rfl
      go_wp2_with fail
      refine (mkM.newdisk most HD.out HI.out).mono ?_; rintro e w4 ⟨s, rfl, hL⟩
      have L4 := Lib.hid hL
      have p1 := (mkM.pair hL).cell (i := 1) (v := .slice da i dc) rfl
      have HLs := Lib.hid (show (ss.map sval).length = i ∧ (ss.map dval).length = i ∧ (rs.map rval).length = i by rw [List.length_map, List.length_map, List.length_map]; exact ⟨HS.out.1, HS.out.1, HS.out.2⟩)
      clear hL c0 c1 p2
      go_wp2_with (first
        | (at_builtin; refine list_of_wp rfl fun KK hKK => wp_lapp1 _ _ 31 42 (.pointer none) 8 rfl Tryz.underlying31 info_sim rfl (by decide) rfl rfl rfl (by rw [HLs.out.1]) (L4.out.pk 1 rfl) rfl (by rw [HLs.out.1]; omega) fun ad c w5 hL => hKK _ _ ?_
           have hL5 := (show Lab w0 w5 ((ownT 42 (.slice ad (i + 1) c) ((ss ++ [s]).map sval)).star (bigT ((mkM pb f g bb K M sb d0 (.slice da i dc) (.slice da i dc) (.slice la i lc) (.slice ma i mc) ss ss (ss ++ [s]) rs rs Y).eraseIdx 1))) by rw [map_snoc]; exact hL).bk (by show 1 < 10; decide)
           have L5 := Lib.hid (show Lab w0 w5 (bigT (mkM pb f g bb K M sb d0 (.slice da i dc) (.slice ad (i + 1) c) (.slice la i lc) (.slice ma i mc) (ss ++ [s]) ss (ss ++ [s]) rs rs Y)) from hL5)
           have p1 := (mkM.pair L5.out).cell (i := 1) (v := .slice da i dc) rfl
           have u1 := (mkM.pair L5.out).unfrozen 1
           have L6 := Lib.hid (mkM.store L5.out (.slice ad (i + 1) c))
           clear hL hL5)
        | (at_builtin; refine list_of_wp rfl fun KK hKK => wp_lapp1 _ _ 129 156 .nilIface 16 rfl Tryz.underlying129 info_disk rfl (by decide) rfl rfl (by rw [setCell_size]) (by rw [HLs.out.2.1]) (L6.out.pk 2 rfl) rfl (by rw [HLs.out.2.1]; omega) fun ad2 c2 w7 hL => hKK _ _ ?_
           have hL7 := (show Lab w0 w7 ((ownT 156 (.slice ad2 (i + 1) c2) ((ss ++ [s]).map dval)).star (bigT ((mkM pb f g bb K M sb d0 (.slice ad (i + 1) c) (.slice ad (i + 1) c) (.slice la i lc) (.slice ma i mc) (ss ++ [s]) ss (ss ++ [s]) rs rs Y).eraseIdx 2))) by rw [map_snoc]; exact hL).bk (by show 2 < 10; decide)
           have L7 := Lib.hid (show Lab w0 w7 (bigT (mkM pb f g bb K M sb d0 (.slice ad (i + 1) c) (.slice ad (i + 1) c) (.slice ad2 (i + 1) c2) (.slice ma i mc) (ss ++ [s]) (ss ++ [s]) (ss ++ [s]) rs rs Y)) from hL7)
           have p4 := (mkM.pair L7.out).cell (i := 4) (v := .pointer (some ⟨g, 0, none⟩)) rfl
           clear hL hL7))
      refine (mkM.newref most HD.out L7.out).mono ?_; rintro e w8 ⟨r, rfl, hL⟩
      have L8 := Lib.hid hL
      clear hL p1 u1 p4 L4 L5 L6 L7
      go_wp2_with (at_builtin; refine list_of_wp rfl fun KK hKK => wp_lapp1 _ _ 142 140 (.pointer none) 8 rfl Tryz.underlying142 info_ref rfl (by decide) rfl rfl rfl (by rw [HLs.out.2.2]) (L8.out.pk 3 rfl) rfl (by rw [HLs.out.2.2]; omega) fun ad3 c3 w9 hL => hKK _ _ ?_)
      have hL9 := (show Lab w0 w9 ((ownT 140 (.slice ad3 (i + 1) c3) ((rs ++ [r]).map rval)).star (bigT ((mkM pb f g bb K M sb d0 (.slice ad (i + 1) c) (.slice ad (i + 1) c) (.slice ad2 (i + 1) c2) (.slice ma i mc) (ss ++ [s]) (ss ++ [s]) (ss ++ [s]) rs (rs ++ [r]) Y).eraseIdx 3))) by rw [map_snoc]; exact hL).bk (by show 3 < 10; decide)
      have L9 := Lib.hid (show Lab w0 w9 (bigT (mkM pb f g bb K M sb d0 (.slice ad (i + 1) c) (.slice ad (i + 1) c) (.slice ad2 (i + 1) c2) (.slice ad3 (i + 1) c3) (ss ++ [s]) (ss ++ [s]) (ss ++ [s]) (rs ++ [r]) (rs ++ [r]) Y)) from hL9)
      clear hL hL9 L8
      go_wp2_with fail
      exact ⟨⟨i + 1, ss ++ [s], rs ++ [r], ad, ad2, ad3, c, c2, c3, by omega, by go_num, rfl, rfl, Lib.hid (by rw [List.length_append, List.length_append]; exact ⟨congrArg (· + 1) HS.out.1, congrArg (· + 1) HS.out.2⟩), L9⟩, by simp [intOf]; omega⟩
    · obtain rfl : i = q := by omega
      have c2 := (mkM.box HI.out).cell (i := 2) (v := .int .i64 sb) rfl
      clear hlt
      go_wp2_with fail
      by_cases hb : 16 ≤ sb ∧ sb ≤ 4096
      case neg =>
        have HB := Lib.hid hb
        have hq3 : K + M ≤ 255 := by have := HQ.out; omega
        have hk1 : 1 ≤ K := by omega
        have hm1 : 1 ≤ M := by omega
        refine (anew_bad K M sb hk1 hm1 hq3 la i lc (fun h => HB.out ⟨h.1, h.2.1⟩) _).mono ?_; rintro e w4 ⟨rfl, x4⟩
        replace c0 := x4.cell c0
        replace c1 := x4.cell c1
        replace c2 := x4.cell c2
        have L4 := Lib.hid (HI.out.ext x4)
        clear x4 hb
        go_wp2_with fail
        refine (rnewarray_bad K M sb hk1 hm1 hq3 ma i mc (fun h => HB.out ⟨h.1, h.2.1⟩) _).mono ?_; rintro e w5 ⟨rfl, x5⟩
        have L5 := Lib.hid (L4.out.ext x5)
        clear x5 c0 c1 c2
        go_wp2_with fail
        go_ret
        exact .inl ⟨fun h => HB.out ⟨h.b1, h.b2⟩, rfl, L5.out.toExt⟩
      obtain ⟨hb1, hb2⟩ := hb
      obtain ⟨B, rfl⟩ := Int.eq_ofNat_of_zero_le (show 0 ≤ sb by omega)
      have HOK := Lib.hid (show ShOk K M B from ⟨by omega, by omega, by have := HQ.out; omega, by omega, by omega⟩)
      have HI2 := Lib.hid HI.out
      have hsl := HS.out.1
      have hrl := HS.out.2
      subst hsl
      have HRL := Lib.hid hrl
      have HLV := Lib.hid (ownT.own (HI.out.pk 2 (X := ownT 156 (.slice la ss.length lc) (ss.map dval)) rfl).left).cells
      have HSK := Lib.hid (show ss.length = K + M from HQ.out.symm)
      clear hrl HI
      refine (anew_any K M B HOK.out _ ss HSK.out w0 _ _ HI2.out HLV.out).mono ?_; rintro e w4 ⟨A, hA, rfl, hL⟩
      have L4 := Lib.hid (show Lab w0 w4 (bigT (arrT A :: mkM pb f g bb K M B d0 (.slice da ss.length dc) (.slice da ss.length dc) (.slice la ss.length lc) (.slice ma ss.length mc) ss ss ss rs rs Y)) from hL)
      have HA := Lib.hid hA
      have rb := rowT.row (L4.out.pk 9 (X := rowT bb 23 #[.int .i64 K, .int .i64 M, .int .i64 B]) rfl).left
      replace c0 := rb.cell (i := 0) (v := .int .i64 K) rfl
      replace c1 := rb.cell (i := 1) (v := .int .i64 M) rfl
      replace c2 := rb.cell (i := 2) (v := .int .i64 B) rfl
      clear hL hA rb
      go_wp2_with fail
      obtain ⟨db, hda⟩ : ∃ h, da = some ⟨h, 0, none⟩ := by
        have ho := ownT.own (L4.out.pk 2 (X := ownT 42 (.slice da ss.length dc) (ss.map sval)) rfl).left
        rcases ho.forms with ⟨e1, e2⟩ | ⟨h, cap, cur, e1, -⟩
        · rw [List.map_eq_nil_iff] at e2
          have h6 := HSK.out
          rw [e2] at h6
          simp at h6
          omega
        · simp only [Value.slice.injEq] at e1
          exact ⟨h, e1.1⟩
      subst hda
      obtain ⟨h, hma⟩ : ∃ h, ma = some ⟨h, 0, none⟩ := by
        have ho := ownT.own (L4.out.pk 4 (X := ownT 140 (.slice ma ss.length mc) (rs.map rval)) rfl).left
        rcases ho.forms with ⟨e1, e2⟩ | ⟨h, cap, cur, e1, -⟩
        · rw [List.map_eq_nil_iff] at e2
          have h5 := HRL.out
          have h6 := HSK.out
          rw [e2] at h5
          simp at h5
          omega
        · simp only [Value.slice.injEq] at e1
          exact ⟨h, e1.1⟩
      subst hma
      have HN5 := Lib.hid (L4.out.pk 4 (X := ownT 140 (.slice (some ⟨h, 0, none⟩) ss.length mc) (rs.map rval)) rfl)
      rw [← HRL.out] at HN5
      have HN6 := rnewarray_any K M B HOK.out h mc rs (by rw [HRL.out]; exact HSK.out) w0 w4 _ HN5.out
      rw [HRL.out] at HN6
      refine HN6.mono ?_; rintro e w5 ⟨V, hV, rfl, hL⟩
      have L5 := Lib.hid (show Lab w0 w5 (bigT [rarrT V, arrT A, rowT pb 36 #[.pointer none, .slice (some ⟨db, 0, none⟩) ss.length dc, .pointer (some ⟨f, 0, none⟩), .pointer none, .pointer (some ⟨g, 0, none⟩)], ownT 42 (.slice (some ⟨db, 0, none⟩) ss.length dc) (ss.map sval), ownT 156 (.slice la ss.length lc) (ss.map dval),
        fuseT (some f) (some ⟨0, 0, false⟩), simsT (some f) ss (ss.map fun _ => d0), rfuseT (some g) (some ⟨0, 0, false⟩), refsT (some g) rs (rs.map fun _ => d0), rowT bb 23 #[.int .i64 K, .int .i64 M, .int .i64 B], Y]) from hL)
      have HV := Lib.hid hV
      have rp := rowT.row (L5.out.pk 2 (X := rowT pb 36 #[.pointer none, .slice (some ⟨db, 0, none⟩) ss.length dc, .pointer (some ⟨f, 0, none⟩), .pointer none, .pointer (some ⟨g, 0, none⟩)]) rfl).left
      have p0 := rp.cell (i := 0) (v := .pointer none) rfl
      have p3 := rp.cell (i := 3) (v := .pointer none) rfl
      have u0 := rp.unfrozen 0
      have u3 := rp.unfrozen 3
      have L6 := ((L5.out.pk 2 (X := rowT pb 36 #[.pointer none, .slice (some ⟨db, 0, none⟩) ss.length dc, .pointer (some ⟨f, 0, none⟩), .pointer none, .pointer (some ⟨g, 0, none⟩)]) rfl).rset 0 (.pointer (some ⟨A.ab, 0, none⟩))).rset 3 (.pointer (some ⟨V.ab, 0, none⟩))
      have L7 := L6.bk (l := [rarrT V, arrT A, blankT, ownT 42 (.slice (some ⟨db, 0, none⟩) ss.length dc) (ss.map sval), ownT 156 (.slice la ss.length lc) (ss.map dval),
        fuseT (some f) (some ⟨0, 0, false⟩), simsT (some f) ss (ss.map fun _ => d0), rfuseT (some g) (some ⟨0, 0, false⟩), refsT (some g) rs (rs.map fun _ => d0), rowT bb 23 #[.int .i64 K, .int .i64 M, .int .i64 B], Y]) (i := 2) (by show 2 < 11; decide)
      have L8 := (L7.ix [2, 3, 1, 5, 6, 0, 7, 8, 10, 4, 9] (by show List.Perm _ (List.range 11); decide)).ent (.star (.refl _) (.star (.refl _) (.star (.refl _) (.star (.refl _) (.star (.refl _) (.star (.refl _) (.star (.refl _) (.star (.refl _) .left))))))))
      have L9 := Lib.hid L8
      clear hL hV L6 L7 L8 rp HN6 c0 c1 c2
      go_wp2_with fail
      go_ret
      refine .inr ⟨⟨pb, f, g, db, dc, A, V⟩, K, M, B, ⟨rfl, rfl, rfl, by omega, by omega, by omega, by omega, by omega, by omega, HA.out.1, HA.out.2.1, HA.out.2.2.1, by rw [HA.out.2.2.2]; exact HSK.out, HV.out.1, HV.out.2.1, HV.out.2.2.1, by rw [HV.out.2.2.2, HRL.out]; exact HSK.out⟩, rfl, ?_⟩
      have e1 : (ss.map fun _ => d0) = (blanks (K + M) most).ds := by unfold blanks; rw [List.map_const', HSK.out, HD.out]
      have e2 : (rs.map fun _ => d0) = (blanks (K + M) most).ds := by unfold blanks; rw [List.map_const', HRL.out, HSK.out, HD.out]
      have h9 := L9.out
      rw [e1, e2] at h9
      unfold memP memA PA.dv
      simp only
      rw [HA.out.2.2.2, HV.out.2.2.2]
      exact h9
end Go.Proofs.YthkbbcdnmdjhdaaGreat
