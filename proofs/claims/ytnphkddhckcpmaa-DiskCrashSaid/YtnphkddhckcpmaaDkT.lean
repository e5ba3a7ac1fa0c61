/-
  Files: the walk.
-/
import Derived.Test.YtnphkddhckcpmaaDkS
namespace Go.Proofs.Ytnphkddhckcpmaa
open Go.RowKit Dk Go.WideShapes Go.ChangeMaps Go.MapKept
set_option maxRecDepth 100000
set_option maxHeartbeats 4000000
attribute [local go_sem] min_int2 max_int2 bstr_toList

theorem sortp_paths {α : Type} {l : L α} (hu : Up l) {ps : List Path} (hp : ps.Perm (paths l)) : sortp ps = paths l := by
  have tr : ∀ a b c : Path, (!bytesBefore b a) = true → (!bytesBefore c b) = true → (!bytesBefore c a) = true := fun a b c h1 h2 => by
    cases h3 : bytesBefore c a with
    | false => rfl
    | true =>
      by_cases e : a = b
      · subst e; rw [h3] at h2; cases h2
      · rcases WideAt.bytes_total a b e with h | h
        · rw [WideShapes.bytes_trans _ _ _ h3 h] at h2; cases h2
        · rw [h] at h1; cases h1
  have h1 := List.pairwise_mergeSort (le := fun x y : Path => !bytesBefore y x) tr (fun a b => before_total a b) ps
  have h2 : (paths l).Pairwise fun a b => (!bytesBefore b a) = true := List.pairwise_map.2 (hu.imp fun h => by rw [before_not h]; rfl)
  refine List.Perm.eq_of_pairwise ?_ h1 h2 ((List.mergeSort_perm _ _).trans hp)
  intro a b _ _ h3 h4
  by_cases e : a = b
  · exact e
  · rcases WideAt.bytes_total a b e with h | h
    · rw [h] at h4; cases h4
    · rw [h] at h3; cases h3
theorem FRange.own {w : World} {B m r : Nat} {e : TypeId} {v : Value} {cs : List Value} {l : L Nat} {left : Lit → Bool} {cnt : Nat} (h : FRange w m r l left cnt) (k : Own w B e v cs) : v.ownBlock ≠ some r := fun x => by
  rcases k.forms with ⟨rfl, _⟩ | ⟨g, cap, cur, rfl, _, hr, _⟩
  · cases x
  · exact h.ne hr (Option.some.inj x)
theorem Own.above {w : World} {B : Nat} {e : TypeId} {v : Value} {cs : List Value} (k : Own w B e v cs) (b : Nat) (x : v.ownBlock = some b) : B ≤ b := by
  rcases k.forms with ⟨rfl, _⟩ | ⟨g, cap, cur, rfl, hb, _⟩
  · cases x
  · cases x; exact hb
theorem files_some (hso : SortOk) (s m : Nat) (fp : Option Nat) (es : L Ent) (d : DS) (w : World) (h : Raw w s fp m es d) (hn : d.fs.length ≤ 4096) :
    Calls Try.prog 23 #[.pointer (some ⟨s, 0, none⟩)] w fun e w' => ∃ v, e = .returned v ∧ (∃ a c, v = .slice (some a) d.fs.length c) ∧ Own w' w.heap.size 9 v (pvs (paths d.fs)) ∧ Ext w w' := by
  have H := Lib.hid h
  have c2 := h.row.cell (i := 2) (v := .map (some m)) rfl
  have hlen := World.ownsMap.len h.map Try.underlying75 3
  have hle : (qs es).length = d.fs.length := by rw [h.fs]; simp [qs, fils, mapv_length]
  rw [Dm_size, hle] at hlen
  obtain ⟨n, hnn⟩ : ∃ n, d.fs.length = n := ⟨_, rfl⟩
  rw [hnn] at hlen hn
  have hmk := make_cap' (P := Try.prog) 39 9 (.string ByteArray.empty) 16 0 n Try.underlying39 info_str rfl (Nat.zero_le _) (by omega) (by omega)
  have hmkw : (Instr.makeSlice 39 (.int .i64 0) (.int .i64 (n : Int))).run Try.prog w = .ok (.slice (some ⟨w.heap.size, 0, none⟩) 0 n) (w.alloc (.cells (Array.replicate n (.string ByteArray.empty)) 9)) := hmk w
  have o0 : Own (w.alloc (.cells (Array.replicate n (.string ByteArray.empty)) 9)) w.heap.size 9 (.slice (some ⟨w.heap.size, 0, none⟩) 0 n) (pvs []) := by
    have hr := Row.new w 9 (Array.replicate n (.string ByteArray.empty))
    exact Own.mk (cs := []) (Nat.le_refl _) hr (Nat.zero_le _) (by simp) (by simp) (by unfold maxLen; omega)
  have x1 : Ext w (w.alloc (.cells (Array.replicate n (.string ByteArray.empty)) 9)) := (Ext.refl w).alloc (Nat.le_refl _) _
  obtain ⟨w1, hw1⟩ : ∃ w1, w.alloc (.cells (Array.replicate n (.string ByteArray.empty)) 9) = w1 := ⟨_, rfl⟩
  rw [hw1] at o0 x1 hmkw
  have h1 := h.chg (Chg.of_ext x1 (fun _ => False)) (fun _ _ h => h)
  have c21 := h1.row.cell (i := 2) (v := .map (some m)) rfl
  obtain ⟨w2, hrun, hR, hX, -⟩ := FRange.start h1.map
  obtain ⟨r, hr⟩ : ∃ r, w1.heap.size = r := ⟨_, rfl⟩
  rw [hr] at hrun hR
  have HR := Lib.hid (And.intro hR (And.intro (Own.ext o0 hX) (Ext.trans x1 hX)))
  have HRR : Hid (w.heap.size ≤ r) := Lib.hid (by rw [← hr]; exact x1.size)
  have HFS := Lib.hid h.fs
  have HU := Lib.hid (h.up.mapv (·.f))
  have hf0 : paths (came (allLeft (qs es)) d.fs) = [] := by
    rw [came_none]
    · rfl
    · intro e he
      rw [h.fs] at he
      obtain ⟨x, hx, rfl⟩ := List.mem_map.1 he
      rw [allLeft_iff, qs_get, get_of_mem h.up (x := x.2) (by exact hx)]; rfl
  have HF0 := Lib.hid hf0
  have HN := Lib.hid hnn
  obtain ⟨B, hB⟩ : ∃ B, w.heap.size = B := ⟨_, rfl⟩
  rw [hB] at hmkw o0 HR HRR ⊢
  have HB := Lib.hid hB
  clear h h1 hmk hR hX hr hf0 hle o0 x1 hnn hB
  go_enter Try.func23, Try.ntmps23
  go_wp2_with fail
  clear hrun c2 c21 hlen hmkw hw1
  go_loopw [3] (fun v3 wr => ∃ (left : Lit → Bool) (cnt : Nat) (ps : List Path) (a : Option Addr) (c : Nat), v3 = .slice a ps.length c ∧ a.isSome = true ∧ Hid (Own wr B 9 (.slice a ps.length c) (pvs ps) ∧ ps.Perm (paths (came left d.fs)) ∧ FRange wr m r (qs es) left cnt ∧ Ext w wr)) (fun _ wr => wr.rangeLeft m r)
  case atStart => exact ⟨_, _, [], _, _, rfl, rfl, Lib.hid ⟨HR.out.2.1, by rw [HF0.out], HR.out.1, HR.out.2.2⟩⟩
  case round =>
    obtain ⟨left, cnt, ps, a, c, rfl, hsome, HI⟩ := hrel
    have hml : wr.rangeLeft m r = cnt := World.ranges.left_eq HI.out.2.2.1
    have hpl : ps.length ≤ 4096 := by
      have e1 := HI.out.2.1.length_eq
      have e2 := came_len (left := left) (l := d.fs)
      have e3 := HN.out
      simp only [paths, List.length_map] at e1
      omega
    rcases HI.out.2.2.1.next 0 with ⟨hl, hrun⟩ | ⟨p, q, w2', cnt', hg, hl, hpl', hrun, hF2, hlt, hg2, hsz, hen⟩
    · have hpm := HI.out.2.1
      rw [came_all hl] at hpm
      have hsp := sortp_paths (by rw [HFS.out]; exact HU.out) hpm
      have hpl2 : ps.length = n := by
        have e1 := hpm.length_eq
        have e3 := HN.out
        simp only [paths, List.length_map] at e1
        omega
      have HPL := Lib.hid hpl2
      have HSP := Lib.hid hsp
      clear hl hml hpm hsp hpl2
      go_wp2_with fail
      refine (hso wr B _ ps HI.out.1 (by omega)).mono ?_; rintro e w5 ⟨rfl, ho, hg⟩
      rw [HSP.out] at ho
      have hx5 : Ext w w5 := Chg.after2 HI.out.2.2.2 hg (fun b hb => by rw [HB.out]; exact HI.out.1.above b hb)
      have HO := Lib.hid (And.intro ho hx5)
      clear ho hg hx5
      go_wp2_with fail
      go_ret
      obtain ⟨a0, ha0⟩ := Option.isSome_iff_exists.1 hsome
      exact ⟨.slice a ps.length c, rfl, ⟨a0, c, by rw [ha0, HPL.out, HN.out]⟩, HO.out.1, HO.out.2⟩
    · rw [qs_get] at hg
      cases hx : get p es with
      | none => rw [hx] at hg; cases hg
      | some x =>
        have hgf : get p d.fs = some x.f := by rw [HFS.out, fils_get, hx]; rfl
        have hst := came_perm (left := left) (by rw [HFS.out]; exact HU.out) hgf hl
        have oR := hF2.own (Own.chg HI.out.1 hg2 fun b hb e1 => HI.out.2.2.1.own HI.out.1 (by rw [hb, e1]))
        have o2 := Own.chg HI.out.1 hg2 fun b hb e1 => HI.out.2.2.1.own HI.out.1 (by rw [hb, e1])
        have x3 : Ext w2' (w2'.alloc (.cells #[.string (bstr p)] 9)) := (Ext.refl w2').alloc (Nat.le_refl _) _
        have hw2 : Ext w w2' := Chg.after2 HI.out.2.2.2 hg2 (fun b hb => by rw [hb, HB.out]; exact HRR.out)
        have hF3 : FRange (w2'.alloc (.cells #[.string (bstr p)] 9)) m r (qs es) (strike left p) cnt' := hF2.chg (Chg.of_ext x3 (fun _ => False)) (fun h => h) (fun h => h)
        have HA := Lib.hid (And.intro (Own.ext o2 x3) (And.intro (Strs.one w2' p) (And.intro (Ext.trans hw2 x3) (And.intro hF3 (Nat.le_trans hw2.size x3.size)))))
        have HP : Hid ((ps ++ [p]).Perm (paths (came (strike left p) d.fs))) := Lib.hid ((List.Perm.append_right [p] HI.out.2.1).trans hst.symm)
        have HLT := Lib.hid (And.intro hlt hml)
        clear hst hgf hx hg hl hpl' hF2 hlt hg2 hsz hml oR o2 x3 hw2 hF3
        go_wp2_with (at_builtin; refine list_of_wp rfl fun K hK => wp_appx _ _ 39 39 9 (.string ByteArray.empty) 16 rfl Try.underlying39 info_str rfl rfl HA.out.1 rfl (Cells.src Try.underlying39 (Own.cells HA.out.2.1) (pvs_one _)) (by simp [pvs, maxLen]; omega) (by simp [pvs]; omega) (by have := HA.out.2.2.2.2; rw [HB.out] at this; exact this) (ps.length + 1) (by simp [pvs]) fun ad c2 w4 ha => hK _ _ ?_)
        obtain ⟨ha1, ha2, -⟩ := ha
        have hc4 : Chg (fun b => (Value.slice a ps.length c).ownBlock = some b) _ w4 := (Chg.refl _ _).grown ha2 (fun k hk => .inl hk)
        have hF4 := HA.out.2.2.2.1.chg hc4 (fun h => HA.out.2.2.2.1.map.own HA.out.1 h) (fun h => HA.out.2.2.2.1.own HA.out.1 h)
        have hX4 := Chg.after2 HA.out.2.2.1 hc4 (fun b hb => by rw [HB.out]; exact HA.out.1.above b hb)
        have e4 : pvs ps ++ pvs [p] = pvs (ps ++ [p]) := by simp [pvs]
        rw [e4] at ha1
        have e5 : (ps ++ [p]).length = ps.length + 1 := by simp
        have HN4 := Lib.hid (And.intro (show Own w4 B 9 (.slice ad (ps ++ [p]).length c2) (pvs (ps ++ [p])) by rw [e5]; exact ha1) (And.intro HP.out (And.intro hF4 hX4)))
        have HE5 := Lib.hid e5
        clear ha1 ha2 hc4 hF4 hX4 e4 e5
        go_wp2_with fail
        have hsm : ad.isSome = true := by
          rcases HN4.out.1.forms with ⟨-, h2⟩ | ⟨g, cap, cur, h1, -⟩
          · exact absurd (congrArg List.length h2) (by simp [pvs])
          · simp only [Value.slice.injEq] at h1
            rw [h1.1]; rfl
        exact ⟨⟨_, _, ps ++ [p], ad, c2, by rw [HE5.out], hsm, HN4⟩, by rw [World.ranges.left_eq HN4.out.2.2.1, HLT.out.2]; exact HLT.out.1⟩
theorem files_any (hso : SortOk) (s m : Nat) (fp : Option Nat) (es : L Ent) (d : DS) (w : World) (h : Raw w s fp m es d) (hn : d.fs.length ≤ 4096) :
    Calls Try.prog 23 #[.pointer (some ⟨s, 0, none⟩)] w fun e w' => ∃ v, e = .returned v ∧ Own w' w.heap.size 9 v (pvs (paths d.fs)) ∧ Ext w w' :=
  (files_some hso s m fp es d w h hn).mono fun _ _ ⟨v, h1, _, h2, h3⟩ => ⟨v, h1, h2, h3⟩
end Go.Proofs.Ytnphkddhckcpmaa
