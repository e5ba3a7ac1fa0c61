/-
  The reference's disk: remove.
-/
import Derived.Test.YtnphkddhckcpmaaRfB
namespace Go.Proofs.Ytnphkddhckcpmaa
open Go.RowKit Dk
set_option maxRecDepth 100000
set_option maxHeartbeats 4000000
attribute [local go_sem] min_int2 max_int2 bstr_toList bstr_size

def zrf : Value := .agg #[.string ByteArray.empty, .slice none 0 0, .bool false]
theorem info_rf : (Try.prog.info? 103).map (fun i => (i.zero, i.size, i.bytes)) = some (some zrf, 3, 48) := by kernel_rfl
theorem Own.one {w : World} {B : Nat} {e : TypeId} {v : Value} {cs : List Value} (h : Own w B e v cs) : v.oneCell' = true := by
  obtain ⟨a, c, rfl⟩ := h.slice
  rfl
theorem RRaw.ones {w : World} {r : Nat} {rf : Option Nat} {lv : Value} {es : L REnt} {d : DS} (h : RRaw w r rf lv es d) : ∀ u ∈ rcells es, u.oneCell' = true := rcells_one es fun e he => (h.file e he).one
/-- Another list. -/
theorem RRaw.relist {w w5 : World} {r : Nat} {rf : Option Nat} {lv lv' : Value} {es es' : L REnt} {d : DS} (h : RRaw w r rf lv es d) (hc : Chg (fun b => w.heap.size ≤ b) w w5) (hl : OwnK w5 w.heap.size 103 3 lv' es'.length (rcells es')) (hu : Up es')
    (hf : ∀ e ∈ es', Own w5 0 5 e.2.v (bvs e.2.f.b)) (hp : ∀ e ∈ es', e.1.length ≤ 600) :
    RRaw (w5.setCell ⟨r, 0, none⟩ lv') r rf lv' es' { d with fs := rfils es' } ∧ (∀ b, lv'.ownBlock = some b → w.heap.size ≤ b) ∧ Chg (fun b => b = r) w (w5.setCell ⟨r, 0, none⟩ lv') := by
  have hrl := h.row.lt
  have hr5 := h.row.chg hc (by omega)
  have hs := hr5.set 0 lv'
  have hc2 : Chg (fun b => b = r) w5 (w5.setCell ⟨r, 0, none⟩ lv') := (Chg.refl (fun b => b = r) w5).at r 0 (.inl rfl) lv'
  refine ⟨⟨by simpa using hs, (hl.chg hc2 fun b hb e => by have := hl.block b hb; omega).mono (Nat.zero_le _), hu, fun e he => (hf e he).chg hc2 fun b hb e1 => ?_, rfl, h.nb, h.nm, hp⟩, fun b hb => hl.block b hb, ?_⟩
  · subst e1
    exact (hf e he).ne hr5 (fun e => rty3 e.symm) hb
  · refine ⟨hc2.os.trans hc.os, hc2.tape.trans hc.tape, hc2.output.trans hc.output, Nat.le_trans hc.size hc2.size, fun b hb hn => (hc2.block b (Nat.lt_of_lt_of_le hb hc.size) hn).trans (hc.block b hb (by omega))⟩
theorem remove_any (r : Nat) (rf : Option Nat) (lv : Value) (es : L REnt) (d : DS) (i : Nat) (w : World) (h : RRaw w r rf lv es d) (hi : i < es.length) (hn : es.length ≤ 100000) :
    Calls Try.prog 64 #[.pointer (some ⟨r, 0, none⟩), .int .i64 (i : Int)] w fun e w' => e = .returned (.tuple #[]) ∧ (∃ lv', RRaw w' r rf lv' (es.take i ++ es.drop (i + 1)) { d with fs := rfils (es.take i ++ es.drop (i + 1)) } ∧ ∀ b, lv'.ownBlock = some b → w.heap.size ≤ b) ∧ Chg (fun b => b = r) w w' := by
  have H := Lib.hid h
  obtain ⟨g, cap, hlv, hcap, -⟩ := h.entry hi
  subst hlv
  have c0 := h.row.cell (i := 0) (v := .slice (some ⟨g, 0, none⟩) es.length cap) rfl
  obtain ⟨n, hnn⟩ : ∃ n, es.length = n := ⟨_, rfl⟩
  have HNN := Lib.hid hnn
  have SRC1 : Hid (∀ w', Ext w w' → Src Try.prog 3 91 (.slice (some ⟨g, 0, none⟩) i cap) i (rcells (es.take i)) w') := Lib.hid fun w' hx => by
    have h1 := (h.ext hx).lst.src (P := Try.prog) Try.underlying91 h.ones (lo := 0) (hi := i) (Nat.zero_le _) (Nat.le_of_lt hi) (x := .slice (some ⟨g, 0, none⟩) i cap) (fun g' cap' e => by cases e; exact ⟨_, by rw [Nat.zero_mul]; rfl⟩) (fun e => by cases e)
    rw [Nat.zero_mul, List.drop_zero, Nat.sub_zero, rcells_take] at h1
    exact h1
  have NL1 : Hid ((rcells (es.take i)).length = i * 3) := Lib.hid (by rw [rcells_length, List.length_take]; congr 1; omega)
  obtain ⟨j, hj⟩ : ∃ j, i + 1 = j := ⟨_, rfl⟩
  have hjn : j ≤ es.length := by omega
  obtain ⟨ad, had⟩ : ∃ ad : Option Addr, (if cap = j then some ⟨g, 0, none⟩ else some ⟨g, j * 3, none⟩) = ad := ⟨_, rfl⟩
  have SRC2 : Hid (∀ w', Chg (fun b => w.heap.size ≤ b) w w' → Src Try.prog 3 91 (.slice ad (es.length - j) (cap - j)) (es.length - j) (rcells (es.drop j)) w') := Lib.hid fun w' hx => by
    have hL := h.lst.chg hx fun b hb hk => by have := h.lst.lt hb; omega
    by_cases hcj : cap = j
    · rw [if_pos hcj] at had
      subst had
      have e1 : es.length - j = 0 := by omega
      have e2 : es.drop j = [] := List.drop_of_length_le (by omega)
      rw [e1, e2]
      exact Src.ofSlice w' Try.underlying91 ⟨g, 0, none⟩ 0 _ [] (by simp) (by simp) (by simp)
    · rw [if_neg hcj] at had
      subst had
      have h1 := hL.src (P := Try.prog) Try.underlying91 h.ones (lo := j) (hi := es.length) hjn (Nat.le_refl _) (x := .slice (some ⟨g, j * 3, none⟩) (es.length - j) (cap - j)) (fun g' cap' e => by cases e; exact ⟨_, rfl⟩) (fun e => by cases e)
      rw [rcells_drop, List.take_of_length_le (by rw [rcells_length, List.length_drop]; exact Nat.le_refl _)] at h1
      exact h1
  have NL2 : Hid ((rcells (es.drop j)).length = (es.length - j) * 3) := Lib.hid (by rw [rcells_length, List.length_drop])
  rw [hnn] at c0 hi hn hcap hjn SRC2 NL2
  have hi' : (i : Int) ≤ (n : Int) := by omega
  have hic : i ≤ cap := by omega
  have hj1 : (i : Int) + 1 = (j : Int) := by omega
  have hj2 : IntKind.i64.wrap (j : Int) = (j : Int) := by rw [IntKind.wrap_i64]; omega
  have hj3 : (0 : Int) ≤ (j : Int) := by omega
  have hj4 : (j : Int) ≤ (n : Int) := by omega
  have HJ := Lib.hid hj
  have u0 := h.row.unfrozen 0
  have hrl := h.row.lt
  clear hj
  clear h hnn
  go_enter Try.func64, Try.ntmps64
  go_wp2_with fail
  have hS : (fun w' : World => w'.cell? ⟨r, 0, none⟩ = some (.slice (some ⟨g, 0, none⟩) n cap)) w.drew := c0
  refine wp_cut [4, 5, 6, 7, 8, 9, 10, 11, 12, 13, 14, 15, 16, 17, 18, 19, 20, 21] (fun w8 => (∃ lv', RRaw w8 r rf lv' (es.take i ++ es.drop (i + 1)) { d with fs := rfils (es.take i ++ es.drop (i + 1)) } ∧ ∀ b, lv'.ownBlock = some b → w.heap.size ≤ b) ∧ Chg (fun b => b = r) w w8) ?_ ?_
  · refine wp_region_U (fun w' : World => w'.cell? ⟨r, 0, none⟩ = some (.slice (some ⟨g, 0, none⟩) n cap)) 18 (by kernel_rfl) ?_
    refine wpU_pureH (i := 0) (j := 4) (v := ?_) rfl rfl (by kernel_rfl) (by kernel_rfl) (by kernel_rfl) (by decide) (fun _ _ _ h => h) (fun _ => hS) (Or.inl ⟨by kernel_rfl, fun _ _ => ?_⟩) ?_
    rotate_left
    · go_simp
      try with_reducible rfl
    refine wpU_pureH (i := 1) (j := 5) (v := ?_) rfl rfl (by kernel_rfl) (by kernel_rfl) (by kernel_rfl) (by decide) (fun _ _ _ h => h) (fun _ => hS) (Or.inl ⟨by kernel_rfl, fun _ _ => ?_⟩) ?_
    rotate_left
    · go_simp
      try with_reducible rfl
    refine wpU_pureH (i := 2) (j := 6) (v := ?_) rfl rfl (by kernel_rfl) (by kernel_rfl) (by kernel_rfl) (by decide) (fun _ _ _ h => h) (fun _ => hS) (Or.inl ⟨by kernel_rfl, fun _ _ => ?_⟩) ?_
    rotate_left
    · go_simp
      try with_reducible rfl
    refine wpU_pureH (i := 3) (j := 7) (v := ?_) rfl rfl (by kernel_rfl) (by kernel_rfl) (by kernel_rfl) (by decide) (fun _ _ _ h => h) (fun _ => hS) (Or.inl ⟨by kernel_rfl, fun _ _ => ?_⟩) ?_
    rotate_left
    · go_simp
      try with_reducible rfl
    refine wpU_loadH (i := 4) (j := 8) (v := ?_) rfl rfl (by kernel_rfl) (by kernel_rfl) (by kernel_rfl) (by decide) (by kernel_rfl) (by kernel_rfl) (fun _ _ _ h => h) hS (Or.inl ⟨by kernel_rfl, fun wl hl => ?_⟩) ?_
    rotate_left
    · obtain l0 := hl
      go_simp
      try with_reducible rfl
    refine wpU_pureH (i := 5) (j := 9) (v := ?_) rfl rfl (by kernel_rfl) (by kernel_rfl) (by kernel_rfl) (by decide) (fun _ _ _ h => h) (fun _ => hS) (Or.inl ⟨by kernel_rfl, fun _ _ => ?_⟩) ?_
    rotate_left
    · go_simp
      try with_reducible rfl
    refine wpU_pureH (i := 6) (j := 10) (v := ?_) rfl rfl (by kernel_rfl) (by kernel_rfl) (by kernel_rfl) (by decide) (fun _ _ _ h => h) (fun _ => hS) (Or.inl ⟨by kernel_rfl, fun _ _ => ?_⟩) ?_
    rotate_left
    · go_simp
      try with_reducible rfl
    refine wpU_pureH (i := 8) (j := 12) (v := ?_) rfl rfl (by kernel_rfl) (by kernel_rfl) (by kernel_rfl) (by decide) (fun _ _ _ h => h) (fun _ => hS) (Or.inl ⟨by kernel_rfl, fun _ _ => ?_⟩) ?_
    rotate_left
    · go_simp
      try with_reducible rfl
    refine wpU_pureH (i := 9) (j := 13) (v := ?_) rfl rfl (by kernel_rfl) (by kernel_rfl) (by kernel_rfl) (by decide) (fun _ _ _ h => h) (fun _ => hS) (Or.inl ⟨by kernel_rfl, fun _ _ => ?_⟩) ?_
    rotate_left
    · go_simp
      try with_reducible rfl
    refine wpU_pureH (i := 10) (j := 14) (v := ?_) rfl rfl (by kernel_rfl) (by kernel_rfl) (by kernel_rfl) (by decide) (fun _ _ _ h => h) (fun _ => hS) (Or.inl ⟨by kernel_rfl, fun _ _ => ?_⟩) ?_
    rotate_left
    · go_simp
      try with_reducible rfl
    refine wpU_loadH (i := 11) (j := 15) (v := ?_) rfl rfl (by kernel_rfl) (by kernel_rfl) (by kernel_rfl) (by decide) (by kernel_rfl) (by kernel_rfl) (fun _ _ _ h => h) hS (Or.inl ⟨by kernel_rfl, fun wl hl => ?_⟩) ?_
    rotate_left
    · obtain l0 := hl
      go_simp
      try with_reducible rfl
    refine wpU_pureH (i := 12) (j := 16) (v := ?_) rfl rfl (by kernel_rfl) (by kernel_rfl) (by kernel_rfl) (by decide) (fun _ _ _ h => h) (fun _ => hS) (Or.inl ⟨by kernel_rfl, fun _ _ => ?_⟩) ?_
    rotate_left
    · go_simp
      try with_reducible rfl
    refine wpU_pureH (i := 13) (j := 17) (v := ?_) rfl rfl (by kernel_rfl) (by kernel_rfl) (by kernel_rfl) (by decide) (fun _ _ _ h => h) (fun _ => hS) (Or.inl ⟨by kernel_rfl, fun _ _ => ?_⟩) ?_
    rotate_left
    · go_simp
      try with_reducible rfl
    refine wpU_pureH (i := 14) (j := 18) (v := ?_) rfl rfl (by kernel_rfl) (by kernel_rfl) (by kernel_rfl) (by decide) (fun _ _ _ h => h) (fun _ => hS) (Or.inl ⟨by kernel_rfl, fun _ _ => ?_⟩) ?_
    rotate_left
    · go_simp
      try with_reducible rfl
    refine wpU_all [7] (by kernel_rfl) (by simp) ?_
    refine ReadyU.cons rfl (fun K hK => ?_) ReadyU.nil
    refine step_of_wp rfl (wp_appk (B := w.heap.size) _ _ 91 91 103 zrf 3 48 rfl Try.underlying91 info_rf rfl rfl (OwnK.nil _ _ _ _) (by go_simp) (SRC1.out _ (Ext.of_drawn w 1)) (by rw [NL1.out]) (by unfold maxLen; omega) (by omega) (Nat.le_refl _) fun a1 c4 w4 ha => ?_)
    have hc4 : Chg (fun _ => False) w w4 := (Chg.of_ext (Ext.of_drawn w 1) _).trans ((Chg.refl (fun _ => False) w.drew).grown ha.2.1 (fun k hk => by cases hk))
    have hS := hc4.cell c0 (fun h => h)
    refine hK.out _ _ (fun _ => hS) ?_
    refine wpU_putH (j := 11) rfl ?_
    clear hK K
    have HA1 := Lib.hid (And.intro ha.1 (hc4.mono (T := fun b => w.heap.size ≤ b) fun _ _ h => h.elim))
    clear ha hc4
    refine wpU_all [15] (by kernel_rfl) (by simp) ?_
    refine ReadyU.cons rfl (fun K hK => ?_) ReadyU.nil
    refine step_of_wp rfl (wp_appk (B := w.heap.size) _ _ 91 91 103 zrf 3 48 rfl Try.underlying91 info_rf rfl (by go_simp) HA1.out.1 (by go_simp) (SRC2.out _ HA1.out.2) (by rw [NL2.out]) (by unfold maxLen; omega) (by omega) HA1.out.2.size fun a2 c5 w5 ha => ?_)
    have hc5 : Chg (fun b => w.heap.size ≤ b) w w5 := HA1.out.2.trans ((Chg.refl (fun b => w.heap.size ≤ b) w4).grown ha.2.1 (fun k hk => .inl (HA1.out.1.block k hk)))
    have hS := hc5.cell c0 (show ¬ w.heap.size ≤ r by omega)
    have u5 := hc5.unfrozen c0 u0 (show ¬ w.heap.size ≤ r by omega)
    refine hK.out _ _ (fun _ => hS) ?_
    refine wpU_putH (j := 19) rfl ?_
    clear hK K
    have hll : (es.take i ++ es.drop j).length = 0 + i + (n - j) := by rw [List.length_append, List.length_take, List.length_drop, HNN.out]; omega
    have ho := ha.1
    have ecs : ([] ++ rcells (List.take i es)) ++ rcells (List.drop j es) = rcells (es.take i ++ es.drop j) := by rw [List.nil_append, rcells_append]
    rw [ecs, ← hll] at ho
    have hsub : ∀ e ∈ es.take i ++ es.drop j, e ∈ es := fun e he => (List.mem_append.1 he).elim List.mem_of_mem_take List.mem_of_mem_drop
    have hup : Up (es.take i ++ es.drop j) := by
      refine List.Pairwise.sublist ?_ H.out.up
      have h1 : (es.take i ++ es.drop j).Sublist (es.take i ++ es.drop i) := (List.Sublist.refl _).append (List.drop_sublist_drop_left _ (by have := HJ.out; omega))
      rwa [List.take_append_drop] at h1
    have FIN := H.out.relist hc5 ho hup (fun e he => (H.out.file e (hsub e he)).chg hc5 fun b hb hk => by have := (H.out.file e (hsub e he)).lt hb; omega) (fun e he => H.out.pl e (hsub e he))
    rw [Nat.zero_add] at hll
    rw [hll] at FIN
    have hfin : (∃ lv', RRaw (w5.setCell ⟨r, 0, none⟩ (.slice a2 (i + (n - j)) c5)) r rf lv' (es.take i ++ es.drop (i + 1)) { d with fs := rfils (es.take i ++ es.drop (i + 1)) } ∧ ∀ b, lv'.ownBlock = some b → w.heap.size ≤ b) ∧ Chg (fun b => b = r) w (w5.setCell ⟨r, 0, none⟩ (.slice a2 (i + (n - j)) c5)) := by
      rw [HJ.out]
      exact ⟨⟨_, FIN.1, FIN.2.1⟩, FIN.2.2⟩
    have FIN := Lib.hid hfin
    clear ha hc5 ho hup hsub ecs hfin hll
    refine wpU_pureH (i := 16) (j := 20) (v := ?_) rfl rfl (by kernel_rfl) (by kernel_rfl) (by kernel_rfl) (by decide) (fun _ _ _ h => h) (fun _ => hS) (Or.inl ⟨by kernel_rfl, fun _ _ => ?_⟩) ?_
    rotate_left
    · go_simp
      try with_reducible rfl
    refine wpU_pureH (i := 17) (j := 21) (v := ?_) rfl rfl (by kernel_rfl) (by kernel_rfl) (by kernel_rfl) (by decide) (fun _ _ _ h => h) (fun _ => hS) (Or.inl ⟨by kernel_rfl, fun _ _ => ?_⟩) ?_
    rotate_left
    · go_simp
      try with_reducible rfl
    refine wpU_all [18] (by kernel_rfl) (by simp) ?_
    refine ReadyU.cons rfl (fun K hK => ?_) ReadyU.nil
    simp only [List.set_cons_zero, List.set_cons_succ]
    go_simp
    refine hK.out _ _ (fun h => Bool.noConfusion (show true = false from h)) ?_
    clear hK K
    refine wpU_done (by kernel_rfl) ?_ _
    exact cut_end FIN.out (by kernel_rfl)
  · intro us w8 h8
    have H8 := Lib.hid h8
    clear h8 hS c0
    simp only [setAll, List.foldl_cons, List.foldl_nil, List.set_cons_zero, List.set_cons_succ]
    go_wp2_with fail
    go_end0
    exact ⟨rfl, H8.out⟩
end Go.Proofs.Ytnphkddhckcpmaa
