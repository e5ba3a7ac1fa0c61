/-
  Flip of a disk.
  Flip of the reference's disk.
  What befalls both disks, by parts of memory.
  One deed on both disks: what befalls them.
  Same: both disks hold the same.
-/
import Derived.Test.YthkbbcdnmdjhdaaGreatD6
import Derived.Laws.BitsAllLaws
/-! XFlA: Flip of a disk. -/
namespace Go.Proofs.YthkbbcdnmdjhdaaGreat
open Go.RowKit Dk
set_option maxRecDepth 100000
set_option maxHeartbeats 4000000
attribute [local go_sem] min_int2 max_int2 bstr_toList bstr_size

/-- What a byte is turned to by the k-th byte of a mask. -/
def fby (y : UInt8) (m k : Nat) : UInt8 := UInt8.ofNat (y.toNat ^^^ (m / 2 ^ (8 * k)) % 256)
theorem fby_bits (y : UInt8) (m k B : Nat) (h : m / 2 ^ (8 * k) % 256 = B) : bits .xor .u8 (y.toNat : Int) (B : Int) = ((fby y m k).toNat : Int) := by
  have hy : y.toNat < 256 := y.toNat_lt
  have hB : B < 256 := by omega
  rw [u8_xor_nat _ _ hy hB]
  unfold fby
  rw [h, UInt8.toNat_ofNat_of_lt' (Nat.xor_lt_two_pow (n := 8) hy hB)]
/-- k bytes from a on are turned. -/
def flipl (b : List UInt8) (a m : Nat) : Nat → List UInt8
  | 0 => b
  | k + 1 => match (flipl b a m k)[a + k]? with
    | some y => (flipl b a m k).set (a + k) (fby y m k)
    | none => flipl b a m k
theorem flipl_length (b : List UInt8) (a m : Nat) : ∀ k, (flipl b a m k).length = b.length
  | 0 => rfl
  | k + 1 => by
    have ih := flipl_length b a m k
    unfold flipl
    split
    · rw [List.length_set, ih]
    · exact ih
theorem flipl_succ (b : List UInt8) (a m k : Nat) {y : UInt8} (h : (flipl b a m k)[a + k]? = some y) : flipl b a m (k + 1) = (flipl b a m k).set (a + k) (fby y m k) := by
  show (match (flipl b a m k)[a + k]? with | some y => _ | none => _) = _
  rw [h]
theorem flipl_past (b : List UInt8) (a m k : Nat) (h : b.length ≤ a + k) : flipl b a m (k + 1) = flipl b a m k := by
  show (match (flipl b a m k)[a + k]? with | some y => _ | none => _) = _
  rw [List.getElem?_eq_none (by rw [flipl_length]; exact h)]
theorem flipl_stop (b : List UInt8) (a m : Nat) {k : Nat} (h : b.length ≤ a + k) : ∀ j, flipl b a m (k + j) = flipl b a m k
  | 0 => rfl
  | j + 1 => by
    rw [← Nat.add_assoc, flipl_past b a m (k + j) (by omega)]
    exact flipl_stop b a m h j
/-- One byte of a file written. -/
theorem Raw.poke {w : World} {s m : Nat} {fp : Option Nat} {es : L Ent} {d : DS} (h : Raw w s fp m es d) {p : Path} {x : Ent} (hx : Dk.get p es = some x) {g n c : Nat} (hv : x.v = .slice (some ⟨g, 0, none⟩) n c) (i : Nat) (y : UInt8) :
    Raw (w.setCell ⟨g, i, none⟩ (bv y)) s fp m (Dk.put p ⟨x.q, x.v, ⟨x.f.b.set i y, x.f.sure⟩⟩ es) { d with fs := Dk.put p ⟨x.f.b.set i y, x.f.sure⟩ d.fs } ∧ Chg (fun b => b = g) w (w.setCell ⟨g, i, none⟩ (bv y)) := by
  have hc : Chg (fun b => b = g) w (w.setCell ⟨g, i, none⟩ (bv y)) := (Chg.refl (fun b => b = g) w).at g i (.inl rfl) (bv y)
  have hm := get_mem hx
  have hf := h.file _ hm
  have hown : x.v.ownBlock = some g := by rw [hv]; rfl
  have hO : Own w 0 5 x.v (bvs x.f.b) := hf.2
  obtain ⟨cur, hrow⟩ := hO.row hown
  have hrm : m ≠ g := fun e => h.map.own hO (by rw [hown, e])
  have hrs : s ≠ g := fun e => (h.sim.2 _ hm).2 (by rw [show (p, x).2.v = x.v from rfl, hown, e])
  have hqn : ∀ e ∈ es, e.2.q ≠ g := fun e he e1 => by
    subst e1
    exact hO.ne (h.file e he).1 (fun x => ty_file_byte x.symm) hown
  refine ⟨⟨h.row.chg hc hrs, ?_, put_up h.up, fun e he => ?_, fun e he e' he' hne => ?_, ?_, h.nb, h.nm⟩, hc⟩
  · have h1 := h.map.chg hc hrm
    have h2 : qs (Dk.put p ⟨x.q, x.v, ⟨x.f.b.set i y, x.f.sure⟩⟩ es) = qs es := by
      show mapv (fun x : Ent => x.q) (Dk.put p ⟨x.q, x.v, ⟨x.f.b.set i y, x.f.sure⟩⟩ es) = _
      rw [← put_mapv (fun x : Ent => x.q)]
      exact put_same (h.up.mapv _) (by rw [get_mapv, hx]; rfl)
    rw [h2]; exact h1
  · rcases mem_put.1 he with rfl | ⟨he, hne⟩
    · refine ⟨hf.1.chg hc (hqn _ hm), ?_⟩
      show Own _ 0 5 x.v (bvs (x.f.b.set i y))
      have h1 : Own w 0 5 (.slice (some ⟨g, 0, none⟩) n c) (bvs x.f.b) := by rw [← hv]; exact hO
      have h2 := h1.set i (bv y)
      rw [hv, show bvs (x.f.b.set i y) = (bvs x.f.b).set i (bv y) from List.map_set]
      exact h2
    · refine (h.file e he).chg hc (hqn e he) fun b hb e1 => ?_
      subst e1
      have := (h.apart e he (p, x) hm hne).2
      rcases this with h3 | h3
      · rw [h3] at hb; cases hb
      · exact h3 (by rw [hb, show (p, x).2.v = x.v from rfl, hown])
  · have old : ∀ e ∈ Dk.put p ⟨x.q, x.v, ⟨x.f.b.set i y, x.f.sure⟩⟩ es, ∃ e0 ∈ es, e0.1 = e.1 ∧ e0.2.q = e.2.q ∧ e0.2.v = e.2.v := fun e he => by
      rcases mem_put.1 he with rfl | ⟨he, -⟩
      · exact ⟨(p, x), hm, rfl, rfl, rfl⟩
      · exact ⟨e, he, rfl, rfl, rfl⟩
    obtain ⟨e0, h0, a1, a2, a3⟩ := old e he
    obtain ⟨e0', h0', b1, b2, b3⟩ := old e' he'
    have := h.apart e0 h0 e0' h0' (by rw [a1, b1]; exact hne)
    unfold EApart at this ⊢
    rw [a2, a3, b2, b3] at this
    exact this
  · show Dk.put p _ d.fs = fils (Dk.put p _ es)
    rw [h.fs]
    exact put_mapv (fun x : Ent => x.f) p ⟨x.q, x.v, ⟨x.f.b.set i y, x.f.sure⟩⟩ es
theorem put_put {l : L Fil} (hu : Up l) (p : Path) (x y : Fil) : put p y (put p x l) = put p y l := get_ext (put_up (put_up hu)) (put_up hu) fun q => by
  rw [get_put (put_up hu), get_put hu, get_put hu]
  by_cases e : p = q
  · rw [if_pos e, if_pos e]
  · rw [if_neg e, if_neg e, if_neg e]
def flipok (p : Path) (a : Int) (l : L Fil) : Bool := match get p l with
  | some f => decide (0 ≤ a ∧ a < f.b.length)
  | none => false
def dflip (p : Path) (a : Int) (m : Nat) (d : DS) : DS := match get p d.fs with
  | some f => if 0 ≤ a ∧ a < f.b.length then { d with fs := put p ⟨flipl f.b a.toNat m 4, f.sure⟩ d.fs } else d
  | none => d
/-- Behind j bytes. -/
def FlipI (w wr : World) (s mp : Nat) (fp : Option Nat) (d : DS) (S : Nat → Prop) (p : Path) (x : Ent) (g xc k0 m : Nat) (_es : L Ent) (j : Nat) : Prop :=
  ∃ (es' : L Ent) (x' : Ent), Raw wr s fp mp es' { d with fs := put p ⟨flipl x.f.b k0 m j, x.f.sure⟩ d.fs } ∧ get p es' = some x' ∧ x'.q = x.q ∧ x'.f = ⟨flipl x.f.b k0 m j, x.f.sure⟩ ∧ x'.v = .slice (some ⟨g, 0, none⟩) x.f.b.length xc ∧ True ∧ (∀ b, Foot s mp es' b → S b) ∧ Chg S w wr
theorem flip_any (s : Nat) (fp : Option Nat) (d : DS) (S : Nat → Prop) (p : Path) (a : Int) (hA : -9223372036854775808 ≤ a ∧ a ≤ 9223372036854775807) (m : Nat) (w : World) (h : SimAt w s fp d S) (hp : p.length ≤ maxLen) (ht : tot d.fs ≤ 1099511627776) :
    Calls Tryz.prog 112 #[.pointer (some ⟨s, 0, none⟩), .string (bstr p), .int .i64 a, .int .u32 (m : Int)] w fun e w' => e = .returned (.bool (flipok p a d.fs)) ∧ SimAt w' s fp (dflip p a m d) S ∧ Chg S w w' := by
  obtain ⟨mp, es, h, hS1, hS2, hS3⟩ := h
  have H := Lib.hid h
  have HS := Lib.hid (And.intro hS1 (And.intro hS2 hS3))
  have c2 := h.row.cell (i := 2) (v := .map (some mp)) rfl
  have lk := h.map.look p hp
  have hs0 : (binOp .eql 42 (.pointer (some ⟨s, 0, none⟩)) (.pointer none)).run Tryz.prog w = .ok (.bool false) w := by go_simp
  clear h hS1 hS2 hS3
  rw [qs_get] at lk
  cases hx : get p es with
  | none =>
    have hg : get p d.fs = none := by rw [H.out.fs, fils_get, hx]; rfl
    have HR := Lib.hid (show flipok p a d.fs = false ∧ dflip p a m d = d by unfold flipok dflip; rw [hg]; exact ⟨rfl, rfl⟩)
    rw [hx] at lk
    simp only [Option.map_none, Option.isSome_none] at lk
    clear hx hg
    go_enter Tryz.func112, Tryz.ntmps112
    go_wp2_with fail
    go_ret
    rw [HR.out.1, HR.out.2]
    exact ⟨rfl, ⟨mp, es, H.out, HS.out⟩, Chg.refl _ _⟩
  | some x =>
    have hg : get p d.fs = some x.f := by rw [H.out.fs, fils_get, hx]; rfl
    rw [hx] at lk
    simp only [Option.map_some, Option.isSome_some] at lk
    have hfile := H.out.file _ (get_mem hx)
    have d0 := hfile.1.cell (i := 0) (v := x.v) rfl
    obtain ⟨xa, xc, hv⟩ := Own.slice' hfile.2
    rw [bvs_len] at hv
    have hv : x.v = .slice xa x.f.b.length xc := hv
    rw [show (p, x).2.v = x.v from rfl] at d0
    obtain ⟨L, hL⟩ : ∃ L, x.f.b.length = L := ⟨_, rfl⟩
    have hLb : L ≤ 1099511627776 := by
      have h1 := tot_mem (l := d.fs) (e := (p, x.f)) (get_mem hg)
      have h2 : x.f.b.length ≤ tot d.fs := h1
      omega
    rw [hv, hL] at d0
    have HX := Lib.hid (And.intro hx (And.intro hg (And.intro hv hL)))
    clear hx hg hfile hv
    go_enter Tryz.func112, Tryz.ntmps112
    by_cases ha0 : a < 0
    · have HR := Lib.hid (show flipok p a d.fs = false ∧ dflip p a m d = d by unfold flipok dflip; rw [HX.out.2.1]; exact ⟨decide_eq_false (fun h => by omega), if_neg (fun h => by omega)⟩)
      go_wp2_with fail
      go_ret
      rw [HR.out.1, HR.out.2]
      exact ⟨rfl, ⟨mp, es, H.out, HS.out⟩, Chg.refl _ _⟩
    by_cases ha1 : (L : Int) ≤ a
    · have HR := Lib.hid (show flipok p a d.fs = false ∧ dflip p a m d = d by unfold flipok dflip; rw [HX.out.2.1]; exact ⟨decide_eq_false (fun h => by have := HX.out.2.2.2; omega), if_neg (fun h => by have := HX.out.2.2.2; omega)⟩)
      have ha0' : 0 ≤ a := by omega
      clear ha0
      go_wp2_with fail
      go_ret
      rw [HR.out.1, HR.out.2]
      exact ⟨rfl, ⟨mp, es, H.out, HS.out⟩, Chg.refl _ _⟩
    obtain ⟨k0, rfl⟩ := Int.eq_ofNat_of_zero_le (show 0 ≤ a by omega)
    have hkL : k0 < L := by omega
    have hkL2 : (k0 : Int) < (L : Int) := by omega
    clear ha0 ha1
    obtain ⟨g, hxa⟩ : ∃ g, xa = some ⟨g, 0, none⟩ := by
      have hf := (H.out.file _ (get_mem HX.out.1)).2
      rw [show (p, x).2.v = x.v from rfl, HX.out.2.2.1] at hf
      rcases hf.forms with ⟨h1, -⟩ | ⟨g, cap, cur, h1, -⟩
      · simp only [Value.slice.injEq] at h1
        have := HX.out.2.2.2
        omega
      · simp only [Value.slice.injEq] at h1; exact ⟨g, h1.1⟩
    subst hxa
    have HI0 := Lib.hid (show FlipI w w s mp fp d S p x g xc k0 m es 0 from ⟨es, x, by rw [show ({ d with fs := put p ⟨flipl x.f.b k0 m 0, x.f.sure⟩ d.fs } : DS) = d by show ({ d with fs := put p x.f d.fs } : DS) = d; rw [put_same (by rw [H.out.fs]; exact H.out.up.mapv _) HX.out.2.1]]; exact H.out, HX.out.1, rfl, rfl, HX.out.2.2.1, trivial, HS.out.1, Chg.refl _ _⟩)
    go_wp2_with fail
    go_loopw [11] (fun v11 wr => ∃ j : Nat, j ≤ 4 ∧ v11 = .int .i64 ((k0 + j : Nat) : Int) ∧ Hid (FlipI w wr s mp fp d S p x g xc k0 m es j)) (fun v11 _ => (k0 + 4 - intOf v11).toNat)
    case atStart => exact ⟨0, by omega, rfl, HI0⟩
    case round =>
      obtain ⟨j, hj, rfl, HI⟩ := hrel
      obtain ⟨es', x', hr, hx', hxq, hxf, hxv, -, hfo, hc⟩ := HI.out
      have hfile := hr.file _ (get_mem hx')
      have d0 := hfile.1.cell (i := 0) (v := x'.v) rfl
      rw [show (p, x').2.v = x'.v from rfl, show (p, x').2.q = x'.q from rfl, hxq, hxv, HX.out.2.2.2] at d0
      have HW := Lib.hid (And.intro hr (And.intro hx' (And.intro hxq (And.intro hxf (And.intro hxv (And.intro hfo hc))))))
      clear hr hx' hxq hxf hxv hfo hc
      have e0 : IntKind.i64.wrap (((k0 + j : Nat) : Int) - (k0 : Int)) = (j : Int) := by rw [IntKind.wrap_i64]; omega
      by_cases hlt : j < 4 ∧ k0 + j < L
      · obtain ⟨hj4, hjL⟩ := hlt
        have hjL' : ((k0 + j : Nat) : Int) < (L : Int) := by omega
        have hj4' : (j : Int) < 4 := by omega
        have hlen : (flipl x.f.b k0 m j).length = L := by rw [flipl_length]; exact HX.out.2.2.2
        obtain ⟨y, hy⟩ : ∃ y, (flipl x.f.b k0 m j)[k0 + j]? = some y := ⟨_, List.getElem?_eq_getElem (by omega)⟩
        have hO : Own wr 0 5 (.slice (some ⟨g, 0, none⟩) x.f.b.length xc) (bvs (flipl x.f.b k0 m j)) := by
          have h1 := hfile.2
          rw [show (p, x').2.v = x'.v from rfl, show (p, x').2.f = x'.f from rfl, HW.out.2.2.2.2.1, HW.out.2.2.2.1] at h1
          exact h1
        obtain ⟨bb, oo, e1, d1⟩ := (Own.cells hO).at (j := k0 + j) (u := bv y) (by show ((flipl x.f.b k0 m j).map bv)[k0 + j]? = _; rw [List.getElem?_map, hy]; rfl)
        cases e1
        obtain ⟨cur, hrow⟩ := hO.row (b := g) rfl
        have u1 := hrow.unfrozen (k0 + j)
        rw [Nat.zero_add] at d1
        have d1 : wr.cell? ⟨g, k0 + j, none⟩ = some (.int .u8 (y.toNat : Int)) := d1
        have HY := Lib.hid (And.intro hy (And.intro hlen hO))
        have hS : (fun w' : World => w'.cell? ⟨x.q, 0, none⟩ = some (.slice (some ⟨g, 0, none⟩) L xc) ∧ w'.cell? ⟨g, k0 + j, none⟩ = some (.int .u8 (y.toNat : Int))) wr.drew := ⟨d0, d1⟩
        have e2 : IntKind.i64.wrap (8 * (j : Int)) = 8 * (j : Int) := by rw [IntKind.wrap_i64]; omega
        have e3 : ((k0 : Int) + (j : Int)).toNat = k0 + j := by omega
        have b0 : 0 ≤ (k0 : Int) + (j : Int) := by omega
        have b1 : 0 ≤ 8 * (j : Int) := by omega
        have b2 : 8 * (j : Int) ≤ 32 := by omega
        obtain ⟨M, hM⟩ : ∃ M, m / 2 ^ (8 * j) = M := ⟨_, rfl⟩
        have e4 : (m : Int) / 2 ^ (8 * (j : Int)).toNat = (M : Int) := by
          rw [show (8 * (j : Int)).toNat = 8 * j by omega, ← hM]; norm_cast
        obtain ⟨B, hB⟩ : ∃ B, M % 256 = B := ⟨_, rfl⟩
        have e5 : IntKind.u8.wrap (M : Int) = (B : Int) := by rw [IntKind.wrap_u8, ← hB]; norm_cast
        have e6 : (M : Int) % 256 = (B : Int) := by rw [← hB]; norm_cast
        have hB8 : (B : Int) < 256 := by omega
        have HF := Lib.hid (fby_bits y m j B (by rw [hM, hB]))
        replace e0 : IntKind.i64.wrap ((k0 : Int) + (j : Int) - (k0 : Int)) = (j : Int) := by rw [IntKind.wrap_i64]; omega
        clear hM hB
        clear hy hlen hO hfile hrow
        go_wp2_with fail
        refine wp_cut [54, 55, 56, 57, 58, 59, 60, 61, 62, 63, 64, 65, 66, 67, 68, 69] (fun w8 : World => w8 = wr.drew.setCell ⟨g, k0 + j, none⟩ (bv (fby y m j))) ?_ ?_
        · refine wp_region_U (fun w' : World => w'.cell? ⟨x.q, 0, none⟩ = some (.slice (some ⟨g, 0, none⟩) L xc) ∧ w'.cell? ⟨g, k0 + j, none⟩ = some (.int .u8 (y.toNat : Int))) 16 (by kernel_rfl) ?_
          refine wpU_pureH (i := 0) (j := 54) (v := ?_) rfl rfl (by kernel_rfl) (by kernel_rfl) (by kernel_rfl) (by decide) (fun _ _ _ h => h) (fun _ => hS) (Or.inl ⟨by kernel_rfl, fun _ _ => ?_⟩) ?_
          rotate_left
          · go_simp
            try with_reducible rfl
          refine wpU_pureH (i := 1) (j := 55) (v := ?_) rfl rfl (by kernel_rfl) (by kernel_rfl) (by kernel_rfl) (by decide) (fun _ _ _ h => h) (fun _ => hS) (Or.inl ⟨by kernel_rfl, fun _ _ => ?_⟩) ?_
          rotate_left
          · go_simp
            try with_reducible rfl
          refine wpU_pureH (i := 2) (j := 56) (v := ?_) rfl rfl (by kernel_rfl) (by kernel_rfl) (by kernel_rfl) (by decide) (fun _ _ _ h => h) (fun _ => hS) (Or.inl ⟨by kernel_rfl, fun _ _ => ?_⟩) ?_
          rotate_left
          · go_simp
            try with_reducible rfl
          refine wpU_loadH (i := 3) (j := 57) (v := ?_) rfl rfl (by kernel_rfl) (by kernel_rfl) (by kernel_rfl) (by decide) (by kernel_rfl) (by kernel_rfl) (fun _ _ _ h => h) hS (Or.inl ⟨by kernel_rfl, fun wl hl => ?_⟩) ?_
          rotate_left
          · obtain ⟨l0, l1⟩ := hl
            go_simp
            try with_reducible rfl
          refine wpU_pureH (i := 4) (j := 58) (v := ?_) rfl rfl (by kernel_rfl) (by kernel_rfl) (by kernel_rfl) (by decide) (fun _ _ _ h => h) (fun _ => hS) (Or.inl ⟨by kernel_rfl, fun _ _ => ?_⟩) ?_
          rotate_left
          · go_simp
            try with_reducible rfl
          refine wpU_pureH (i := 5) (j := 59) (v := ?_) rfl rfl (by kernel_rfl) (by kernel_rfl) (by kernel_rfl) (by decide) (fun _ _ _ h => h) (fun _ => hS) (Or.inl ⟨by kernel_rfl, fun _ _ => ?_⟩) ?_
          rotate_left
          · go_simp
            try with_reducible rfl
          refine wpU_loadH (i := 6) (j := 60) (v := ?_) rfl rfl (by kernel_rfl) (by kernel_rfl) (by kernel_rfl) (by decide) (by kernel_rfl) (by kernel_rfl) (fun _ _ _ h => h) hS (Or.inl ⟨by kernel_rfl, fun wl hl => ?_⟩) ?_
          rotate_left
          · obtain ⟨l0, l1⟩ := hl
            go_simp
            try with_reducible rfl
          refine wpU_pureH (i := 7) (j := 61) (v := ?_) rfl rfl (by kernel_rfl) (by kernel_rfl) (by kernel_rfl) (by decide) (fun _ _ _ h => h) (fun _ => hS) (Or.inl ⟨by kernel_rfl, fun _ _ => ?_⟩) ?_
          rotate_left
          · go_simp
            try with_reducible rfl
          refine wpU_pureH (i := 8) (j := 62) (v := ?_) rfl rfl (by kernel_rfl) (by kernel_rfl) (by kernel_rfl) (by decide) (fun _ _ _ h => h) (fun _ => hS) (Or.inl ⟨by kernel_rfl, fun _ _ => ?_⟩) ?_
          rotate_left
          · go_simp
            try with_reducible rfl
          refine wpU_pureH (i := 9) (j := 63) (v := ?_) rfl rfl (by kernel_rfl) (by kernel_rfl) (by kernel_rfl) (by decide) (fun _ _ _ h => h) (fun _ => hS) (Or.inl ⟨by kernel_rfl, fun _ _ => ?_⟩) ?_
          rotate_left
          · go_simp
            try with_reducible rfl
          refine wpU_pureH (i := 10) (j := 64) (v := ?_) rfl rfl (by kernel_rfl) (by kernel_rfl) (by kernel_rfl) (by decide) (fun _ _ _ h => h) (fun _ => hS) (Or.inl ⟨by kernel_rfl, fun _ _ => ?_⟩) ?_
          rotate_left
          · go_simp
            try with_reducible rfl
          refine wpU_pureH (i := 11) (j := 65) (v := ?_) rfl rfl (by kernel_rfl) (by kernel_rfl) (by kernel_rfl) (by decide) (fun _ _ _ h => h) (fun _ => hS) (Or.inl ⟨by kernel_rfl, fun _ _ => ?_⟩) ?_
          rotate_left
          · go_simp
            try with_reducible rfl
          refine wpU_pureH (i := 12) (j := 66) (v := ?_) rfl rfl (by kernel_rfl) (by kernel_rfl) (by kernel_rfl) (by decide) (fun _ _ _ h => h) (fun _ => hS) (Or.inl ⟨by kernel_rfl, fun _ _ => ?_⟩) ?_
          rotate_left
          · go_simp
            try with_reducible rfl
          refine wpU_pureH (i := 13) (j := 67) (v := ?_) rfl rfl (by kernel_rfl) (by kernel_rfl) (by kernel_rfl) (by decide) (fun _ _ _ h => h) (fun _ => hS) (Or.inl ⟨by kernel_rfl, fun _ _ => ?_⟩) ?_
          rotate_left
          · go_simp
            try with_reducible rfl
          refine wpU_pureH (i := 14) (j := 68) (v := ?_) rfl rfl (by kernel_rfl) (by kernel_rfl) (by kernel_rfl) (by decide) (fun _ _ _ h => h) (fun _ => hS) (Or.inl ⟨by kernel_rfl, fun _ _ => ?_⟩) ?_
          rotate_left
          · go_simp
            try with_reducible rfl
          refine wpU_pureH (i := 15) (j := 69) (v := ?_) rfl rfl (by kernel_rfl) (by kernel_rfl) (by kernel_rfl) (by decide) (fun _ _ _ h => h) (fun _ => hS) (Or.inl ⟨by kernel_rfl, fun _ _ => ?_⟩) ?_
          rotate_left
          · go_simp
            try with_reducible rfl
          refine wpU_all [16] (by kernel_rfl) (by simp) ?_
          refine ReadyU.cons rfl (fun K hK => ?_) ReadyU.nil
          simp only [List.set_cons_zero, List.set_cons_succ]
          go_simp
          refine hK.out _ _ (fun h => Bool.noConfusion (show true = false from h)) ?_
          clear hK K
          refine wpU_done (by kernel_rfl) ?_ _
          exact cut_end (by rw [HF.out]; rfl) (by kernel_rfl)
        · rintro us w8 rfl
          have hup : Up d.fs := by rw [H.out.fs]; exact H.out.up.mapv _
          have hgS : S g := HW.out.2.2.2.2.2.1 g (.inr (.inr ⟨_, get_mem HW.out.2.1, .inr (by rw [show (p, x').2.v = x'.v from rfl, HW.out.2.2.2.2.1]; rfl)⟩))
          have hd1 : Chg (fun _ => False) wr wr.drew := Chg.of_ext (Ext.of_drawn wr 1) _
          obtain ⟨hp1, hp2⟩ := (HW.out.1.chg hd1 (fun _ _ h => h)).poke HW.out.2.1 HW.out.2.2.2.2.1 (k0 + j) (fby y m j)
          have hfl : x'.f.b.set (k0 + j) (fby y m j) = flipl x.f.b k0 m (j + 1) := by
            rw [HW.out.2.2.2.1]; exact (flipl_succ _ _ _ _ HY.out.1).symm
          have hsu : x'.f.sure = x.f.sure := by rw [HW.out.2.2.2.1]
          rw [hfl, hsu] at hp1
          rw [show put p ⟨flipl x.f.b k0 m (j + 1), x.f.sure⟩ ({ d with fs := put p ⟨flipl x.f.b k0 m j, x.f.sure⟩ d.fs } : DS).fs = put p ⟨flipl x.f.b k0 m (j + 1), x.f.sure⟩ d.fs from put_put hup p _ _] at hp1
          have HN := Lib.hid (show FlipI w (wr.drew.setCell ⟨g, k0 + j, none⟩ (bv (fby y m j))) s mp fp d S p x g xc k0 m es (j + 1) from
            ⟨_, ⟨x'.q, x'.v, ⟨flipl x.f.b k0 m (j + 1), x.f.sure⟩⟩, hp1, by rw [get_put HW.out.1.up, if_pos rfl], HW.out.2.2.1, rfl, HW.out.2.2.2.2.1, trivial, fun b hb => by
              rcases hb with hb | hb | ⟨e, he, hb⟩
              · exact HW.out.2.2.2.2.2.1 b (.inl hb)
              · exact HW.out.2.2.2.2.2.1 b (.inr (.inl hb))
              · rcases mem_put.1 he with rfl | ⟨he, -⟩
                · exact HW.out.2.2.2.2.2.1 b (.inr (.inr ⟨_, get_mem HW.out.2.1, hb⟩))
                · exact HW.out.2.2.2.2.2.1 b (.inr (.inr ⟨e, he, hb⟩)),
             HW.out.2.2.2.2.2.2.then ((hd1.mono (fun _ _ h => h.elim)).trans (hp2.mono fun b _ hb => by rw [hb]; exact .inl hgS))⟩)
          clear hp1 hp2 hd1 hfl hsu hup hgS hS d1 d0
          simp only [setAll, List.foldl_cons, List.foldl_nil, List.set_cons_zero, List.set_cons_succ]
          go_wp2_with fail
          exact ⟨⟨j + 1, by omega, by go_num, HN⟩, by simp [intOf]; omega⟩
      · have hfin : ({ d with fs := put p ⟨flipl x.f.b k0 m j, x.f.sure⟩ d.fs } : DS) = dflip p (k0 : Int) m d ∧ flipok p (k0 : Int) d.fs = true := by
          have h4 : flipl x.f.b k0 m 4 = flipl x.f.b k0 m j := by
            by_cases h : j = 4
            · rw [h]
            · have := flipl_stop x.f.b k0 m (k := j) (by have := HX.out.2.2.2; omega) (4 - j)
              rw [show j + (4 - j) = 4 by omega] at this
              exact this
          have hin : (0 : Int) ≤ (k0 : Int) ∧ (k0 : Int) < ((x.f.b.length : Nat) : Int) := by have := HX.out.2.2.2; omega
          unfold dflip flipok
          rw [HX.out.2.1]
          exact ⟨by show _ = if _ then _ else _; rw [if_pos hin, Int.toNat_natCast, h4], decide_eq_true hin⟩
        have HE := Lib.hid (show SimAt wr s fp (dflip p (k0 : Int) m d) S ∧ Chg S w wr ∧ flipok p (k0 : Int) d.fs = true from
          ⟨⟨mp, es', by rw [← hfin.1]; exact HW.out.1, HW.out.2.2.2.2.2.1, fun b hb => Nat.lt_of_lt_of_le (HS.out.2.1 b hb) HW.out.2.2.2.2.2.2.size, HS.out.2.2⟩, HW.out.2.2.2.2.2.2, hfin.2⟩)
        clear hfin hfile
        replace e0 : IntKind.i64.wrap ((k0 : Int) + (j : Int) - (k0 : Int)) = (j : Int) := by rw [IntKind.wrap_i64]; omega
        by_cases hjL : k0 + j < L
        · obtain rfl : j = 4 := by omega
          have hjL' : ((k0 : Int) + ((4 : Nat) : Int)) < (L : Int) := by omega
          clear hlt
          go_wp2_with fail
          go_ret
          rw [HE.out.2.2]
          exact ⟨rfl, HE.out.1, HE.out.2.1⟩
        · have hjL' : ¬ ((k0 : Int) + (j : Int)) < (L : Int) := by omega
          clear hlt
          go_wp2_with fail
          go_ret
          rw [HE.out.2.2]
          exact ⟨rfl, HE.out.1, HE.out.2.1⟩
end Go.Proofs.YthkbbcdnmdjhdaaGreat
/-! XFlB: Flip of the reference's disk. -/
namespace Go.Proofs.YthkbbcdnmdjhdaaGreat
open Go.RowKit Dk
set_option maxRecDepth 100000
set_option maxHeartbeats 4000000
attribute [local go_sem] min_int2 max_int2 bstr_toList bstr_size

/-- Behind j bytes of the copy. -/
def RFlipI (w3 wr : World) (gg c4 k0 m : Nat) (b : List UInt8) (j : Nat) : Prop :=
  Own wr w3.heap.size 5 (.slice (some ⟨gg, 0, none⟩) b.length c4) (bvs (flipl b k0 m j)) ∧ Chg (fun _ => False) w3 wr
theorem rflip_any (r : Nat) (rf : Option Nat) (d : DS) (S : Nat → Prop) (p : Path) (a : Int) (hA : -9223372036854775808 ≤ a ∧ a ≤ 9223372036854775807) (m : Nat) (w : World) (h : RefAt w r rf d S) (hn : d.fs.length ≤ 4096) (hp : p.length ≤ 140737488351232) (ht : tot d.fs ≤ 5000000) (hrf : ∀ b, rf = some b → b < w.heap.size) :
    Calls Tryz.prog 113 #[.pointer (some ⟨r, 0, none⟩), .string (bstr p), .int .i64 a, .int .u32 (m : Int)] w fun e w' => e = .returned (.bool (flipok p a d.fs)) ∧ RefAt w' r rf (dflip p a m d) (Grow S w w') ∧ Chg S w w' := by
  obtain ⟨lv, es, h, hS1, hS2, hS3⟩ := h
  have hlen : es.length ≤ 4096 := by have h1 := h.fs; rw [h1] at hn; simpa [rfils, mapv_length] using hn
  have H := Lib.hid h
  have HS := Lib.hid (And.intro hS1 (And.intro hS2 (And.intro hS3 hrf)))
  clear h hS1 hS2 hS3 hrf
  go_enter Tryz.func113, Tryz.ntmps113
  go_wp2_with fail
  refine (at_any r rf lv es _ p _ H.out (by omega) hp).mono ?_; rintro e w3 ⟨rfl, x3⟩
  have H3 := Lib.hid (H.out.ext x3)
  have HG3 := Lib.hid (Chg.of_ext x3 S)
  have HB := Lib.hid (show ∀ w' d', RRaw w' r rf lv es d' → w.heap.size ≤ w'.heap.size → RefAt w' r rf d' (Grow S w w') from fun w' d' h hs =>
    ⟨lv, es, h, fun b hb => .inl (HS.out.1 b hb), fun b hb => hb.elim (fun hb => Nat.lt_of_lt_of_le (HS.out.2.1 b hb) hs) fun hb => hb.2, fun b hb hg => hg.elim (HS.out.2.2.1 b hb) fun hg => by have := HS.out.2.2.2 b hb; omega⟩)
  clear x3
  cases hx : get p es with
  | none =>
    have hg : get p d.fs = none := by rw [H.out.fs]; unfold rfils; rw [get_mapv, hx]; rfl
    have HR := Lib.hid (show flipok p a d.fs = false ∧ dflip p a m d = d by unfold flipok dflip; rw [hg]; exact ⟨rfl, rfl⟩)
    clear hx hg
    go_wp2_with fail
    go_ret
    rw [HR.out.1, HR.out.2]
    exact ⟨rfl, HB.out _ _ H3.out HG3.out.size, HG3.out⟩
  | some x =>
    have hg : get p d.fs = some x.f := by rw [H.out.fs]; unfold rfils; rw [get_mapv, hx]; rfl
    obtain ⟨hpl, hpe⟩ := there_at H3.out.up hx
    obtain ⟨g, cap, hlv, hcap, -, d1, -, du⟩ := H3.out.entry hpl
    subst hlv
    have c0 := H3.out.row.cell (i := 0) (v := .slice (some ⟨g, 0, none⟩) es.length cap) rfl
    rw [hpe] at d1
    have hfile := H3.out.file _ (get_mem hx)
    obtain ⟨xa, xc, hv⟩ := Own.slice' hfile
    rw [bvs_len] at hv
    have hv : x.v = .slice xa x.f.b.length xc := hv
    obtain ⟨L, hL⟩ : ∃ L, x.f.b.length = L := ⟨_, rfl⟩
    have hLb : L ≤ 5000000 := by
      have h1 := tot_mem (l := d.fs) (e := (p, x.f)) (get_mem hg)
      have h2 : x.f.b.length ≤ tot d.fs := h1
      omega
    have hsrc := hfile.cells
    rw [show (p, x).2.v = x.v from rfl] at d1 hsrc
    rw [hv, hL] at d1 hsrc
    have hpi : ((pos p es : Nat) : Int) < (es.length : Int) := by omega
    obtain ⟨q, hq⟩ : ∃ q, pos p es = q := ⟨_, rfl⟩
    rw [hq] at d1 hpi hpl ⊢
    have HX := Lib.hid (And.intro hx (And.intro hg (And.intro hv (And.intro hL (And.intro (show es[q] = (p, x) by simp only [← hq]; exact hpe) (And.intro hpl hq))))))
    have u1 := du (q * 3 + 1)
    clear hx hg hv hfile hpe hq du
    by_cases ha0 : a < 0
    · have HR := Lib.hid (show flipok p a d.fs = false ∧ dflip p a m d = d by unfold flipok dflip; rw [HX.out.2.1]; exact ⟨decide_eq_false (fun h => by omega), if_neg (fun h => by omega)⟩)
      go_wp2_with fail
      go_ret
      rw [HR.out.1, HR.out.2]
      exact ⟨rfl, HB.out _ _ H3.out HG3.out.size, HG3.out⟩
    by_cases ha1 : (L : Int) ≤ a
    · have HR := Lib.hid (show flipok p a d.fs = false ∧ dflip p a m d = d by unfold flipok dflip; rw [HX.out.2.1]; exact ⟨decide_eq_false (fun h => by have := HX.out.2.2.2.1; omega), if_neg (fun h => by have := HX.out.2.2.2.1; omega)⟩)
      have ha0' : 0 ≤ a := by omega
      clear ha0
      go_wp2_with fail
      go_ret
      rw [HR.out.1, HR.out.2]
      exact ⟨rfl, HB.out _ _ H3.out HG3.out.size, HG3.out⟩
    obtain ⟨k0, rfl⟩ := Int.eq_ofNat_of_zero_le (show 0 ≤ a by omega)
    have hkL : k0 < L := by omega
    have hkL2 : (k0 : Int) < (L : Int) := by omega
    have hbl : (bvs x.f.b).length = L := by rw [bvs_len]; exact HX.out.2.2.2.1
    have HSRC := Lib.hid (show Src Tryz.prog 1 24 (.slice xa L xc) (bvs x.f.b).length (bvs x.f.b) w3 from Cells.src (P := Tryz.prog) Tryz.underlying24 hsrc (bvs_one _))
    have HBL := Lib.hid hbl
    clear ha0 ha1 hsrc hbl
    go_wp2_with (at_builtin; refine list_of_wp rfl fun K hK => wp_appx (B := w3.heap.size) _ _ 24 24 5 (.int .u8 0) 1 rfl Tryz.underlying24 info_b1 rfl rfl (Own.nil _ _ _) rfl HSRC.out (by rw [HBL.out]; simp [maxLen]; omega) (by rw [HBL.out]; simp; omega) (Nat.le_refl _) L (by rw [HBL.out]; simp) fun ad c4 w4 ha => hK _ _ ?_)
    obtain ⟨gg, rfl⟩ : ∃ gg, ad = some ⟨gg, 0, none⟩ := by
      rcases ha.1.forms with ⟨h1, -⟩ | ⟨gg, cp, cur, h1, -⟩
      · simp only [Value.slice.injEq] at h1; omega
      · simp only [Value.slice.injEq] at h1; exact ⟨gg, h1.1⟩
    have HI0 := Lib.hid (show RFlipI w3 w4 gg c4 k0 m x.f.b 0 from ⟨by rw [HX.out.2.2.2.1]; exact ha.1, (Chg.refl (fun _ => False) w3).grown ha.2.1 (fun k hk => by cases hk)⟩)
    clear ha
    go_wp2_with fail
    go_loopw [12] (fun v12 wr => ∃ j : Nat, j ≤ 4 ∧ v12 = .int .i64 ((j : Nat) : Int) ∧ Hid (RFlipI w3 wr gg c4 k0 m x.f.b j)) (fun v12 _ => (4 - intOf v12).toNat)
    case atStart => exact ⟨0, by omega, rfl, HI0⟩
    case round =>
      obtain ⟨j, hj, rfl, HI⟩ := hrel
      by_cases hlt : j < 4 ∧ k0 + j < L
      · obtain ⟨hj4, hjL⟩ := hlt
        have hjL' : ((k0 : Int) + (j : Int)) < (L : Int) := by omega
        have hj4' : (j : Int) < 4 := by omega
        have e0 : IntKind.i64.wrap ((k0 : Int) + (j : Int)) = (k0 : Int) + (j : Int) := by rw [IntKind.wrap_i64]; omega
        have hlen2 : (flipl x.f.b k0 m j).length = L := by rw [flipl_length]; exact HX.out.2.2.2.1
        obtain ⟨y, hy⟩ : ∃ y, (flipl x.f.b k0 m j)[k0 + j]? = some y := ⟨_, List.getElem?_eq_getElem (by omega)⟩
        obtain ⟨bb, oo, e1, d2⟩ := (Own.cells HI.out.1).at (j := k0 + j) (u := bv y) (by show ((flipl x.f.b k0 m j).map bv)[k0 + j]? = _; rw [List.getElem?_map, hy]; rfl)
        cases e1
        obtain ⟨cur, hrow⟩ := HI.out.1.row (b := gg) rfl
        have u2 := hrow.unfrozen (k0 + j)
        rw [Nat.zero_add] at d2
        have d2 : wr.cell? ⟨gg, k0 + j, none⟩ = some (.int .u8 (y.toNat : Int)) := d2
        have HY := Lib.hid hy
        have e2 : IntKind.i64.wrap (8 * (j : Int)) = 8 * (j : Int) := by rw [IntKind.wrap_i64]; omega
        have e2' : IntKind.u64.wrap (8 * (j : Int)) = 8 * (j : Int) := by rw [IntKind.wrap_u64]; omega
        have e3 : ((k0 : Int) + (j : Int)).toNat = k0 + j := by omega
        have b0 : 0 ≤ (k0 : Int) + (j : Int) := by omega
        have b1 : 0 ≤ 8 * (j : Int) := by omega
        have b2 : 8 * (j : Int) ≤ 32 := by omega
        obtain ⟨M, hM⟩ : ∃ M, m / 2 ^ (8 * j) = M := ⟨_, rfl⟩
        have e4 : (m : Int) / 2 ^ (8 * (j : Int)).toNat = (M : Int) := by
          rw [show (8 * (j : Int)).toNat = 8 * j by omega, ← hM]; norm_cast
        obtain ⟨B, hB⟩ : ∃ B, M % 256 = B := ⟨_, rfl⟩
        have e5 : IntKind.u8.wrap (M : Int) = (B : Int) := by rw [IntKind.wrap_u8, ← hB]; norm_cast
        have e6 : (M : Int) % 256 = (B : Int) := by rw [← hB]; norm_cast
        have hB8 : (B : Int) < 256 := by omega
        have HF := Lib.hid (fby_bits y m j B (by rw [hM, hB]))
        clear hM hB hy hlen2 hrow
        have hgg : w3.heap.size ≤ gg := HI.out.1.block gg rfl
        have hgl : gg < wr.heap.size := by obtain ⟨cur, hr⟩ := HI.out.1.row (b := gg) rfl; exact hr.lt
        have hO := HI.out.1.set (k0 + j) (bv (fby y m j))
        rw [show (bvs (flipl x.f.b k0 m j)).set (k0 + j) (bv (fby y m j)) = bvs (flipl x.f.b k0 m (j + 1)) by rw [flipl_succ _ _ _ _ HY.out]; exact List.map_set.symm] at hO
        have HN := Lib.hid (show RFlipI w3 (wr.setCell ⟨gg, k0 + j, none⟩ (.int .u8 (bits .xor .u8 (y.toNat : Int) (B : Int)))) gg c4 k0 m x.f.b (j + 1) from by
          rw [HF.out]
          exact ⟨hO, HI.out.2.then ((Chg.refl _ wr).at gg _ (.inl (.inr ⟨hgg, hgl⟩)) _)⟩)
        clear hO hgg hgl
        go_wp2_with fail
        exact ⟨⟨j + 1, by omega, by go_num, HN⟩, by simp [intOf]; omega⟩
      · have hfin : ({ d with fs := put p ⟨flipl x.f.b k0 m j, x.f.sure⟩ d.fs } : DS) = dflip p (k0 : Int) m d ∧ flipok p (k0 : Int) d.fs = true := by
          have h4 : flipl x.f.b k0 m 4 = flipl x.f.b k0 m j := by
            by_cases h : j = 4
            · rw [h]
            · have := flipl_stop x.f.b k0 m (k := j) (by have := HX.out.2.2.2.1; omega) (4 - j)
              rw [show j + (4 - j) = 4 by omega] at this
              exact this
          have hin : (0 : Int) ≤ (k0 : Int) ∧ (k0 : Int) < ((x.f.b.length : Nat) : Int) := by have := HX.out.2.2.2.1; omega
          unfold dflip flipok
          rw [HX.out.2.1]
          exact ⟨by show _ = if _ then _ else _; rw [if_pos hin, Int.toNat_natCast, h4], decide_eq_true hin⟩
        have HFIN := Lib.hid hfin
        clear hfin
        replace c0 := HI.out.2.cell c0 (fun h => h)
        have u3 := HI.out.2.unfrozen d1 u1 (fun h => h)
        replace d1 := HI.out.2.cell d1 (fun h => h)
        have hW : ∀ v, Chg (fun k => k = g) wr (wr.setCell ⟨g, q * 3 + 1, none⟩ v) := fun v => (Chg.refl (fun k => k = g) wr).at g _ (.inl rfl) _
        have hq := HX.out.2.2.2.2.2.1
        have h0 := H3.out.chg HI.out.2 (fun _ _ h => h)
        have hgs : S g := HS.out.1 g (.inr (.inl rfl))
        have hgw : g < w.heap.size := HS.out.2.1 g hgs
        have HE : Hid (RefAt (wr.setCell ⟨g, q * 3 + 1, none⟩ (.slice (some ⟨gg, 0, none⟩) L c4)) r rf (dflip p (k0 : Int) m d) (Grow S w (wr.setCell ⟨g, q * 3 + 1, none⟩ (.slice (some ⟨gg, 0, none⟩) L c4))) ∧ Chg S w (wr.setCell ⟨g, q * 3 + 1, none⟩ (.slice (some ⟨gg, 0, none⟩) L c4)) ∧ flipok p (k0 : Int) d.fs = true) := Lib.hid (by
          have hc := hW (.slice (some ⟨gg, 0, none⟩) L c4)
          have hl := h0.lst.set (q * 3 + 1) (.slice (some ⟨gg, 0, none⟩) L c4)
          have h1 := rcells_cut es q hq (.slice (some ⟨gg, 0, none⟩) L c4) ⟨flipl x.f.b k0 m j, x.f.sure⟩ x.f.sure rfl
          have hbl : (rcells es)[q * 3 + 2]? = some (.bool x.f.sure) := by
            have := (rcells_get hq).2.2
            rw [HX.out.2.2.2.2.1] at this; exact this
          rw [rcells_get3 (by rw [List.getElem?_set_ne (by omega)]; exact hbl)] at h1
          rw [h1] at hl
          have hO : Own wr w3.heap.size 5 (.slice (some ⟨gg, 0, none⟩) L c4) (bvs (flipl x.f.b k0 m j)) := by have := HI.out.1; rwa [HX.out.2.2.2.1] at this
          have hgg : w3.heap.size ≤ gg := hO.block gg rfl
          have hO2 := (hO.chg hc fun b hb e => by have := hO.block b hb; have := HG3.out.size; omega).mono (Nat.zero_le _)
          have h9 := h0.reset hq (x' := ⟨.slice (some ⟨gg, 0, none⟩) L c4, ⟨flipl x.f.b k0 m j, x.f.sure⟩⟩) hc hl hO2
          have hfs : rfils (es.set q (es[q].1, ⟨.slice (some ⟨gg, 0, none⟩) L c4, ⟨flipl x.f.b k0 m j, x.f.sure⟩⟩)) = put p ⟨flipl x.f.b k0 m j, x.f.sure⟩ d.fs := by
            have hup : Up d.fs := by rw [H.out.fs]; exact H.out.up.mapv _
            rw [put_there hup HX.out.2.1, show pos p d.fs = q by rw [H.out.fs]; unfold rfils; rw [pos_mapv]; exact HX.out.2.2.2.2.2.2, H.out.fs, HX.out.2.2.2.2.1]
            unfold rfils mapv
            rw [List.map_set]
          rw [hfs] at h9
          rw [← HFIN.out.1]
          have hC : Chg S w (wr.setCell ⟨g, q * 3 + 1, none⟩ (.slice (some ⟨gg, 0, none⟩) L c4)) := (HG3.out.then (HI.out.2.mono fun _ _ h => h.elim)).then (hc.mono fun k _ hk => by rw [hk]; exact .inl hgs)
          refine ⟨⟨_, _, h9, fun b hb => ?_, fun b hb => hb.elim (fun hb => Nat.lt_of_lt_of_le (HS.out.2.1 b hb) hC.size) fun hb => hb.2, fun b hb hg => hg.elim (HS.out.2.2.1 b hb) fun hg => by have := HS.out.2.2.2 b hb; omega⟩, hC, HFIN.out.2⟩
          rcases hb with hb | hb | ⟨e, he, hb⟩
          · exact .inl (HS.out.1 b (.inl hb))
          · exact .inl (HS.out.1 b (.inr (.inl hb)))
          · rcases List.mem_or_eq_of_mem_set he with he | rfl
            · exact .inl (HS.out.1 b (.inr (.inr ⟨e, he, hb⟩)))
            · exact .inr ⟨Nat.le_trans HG3.out.size (hO.block b hb), hO2.lt hb⟩)
        clear h0 hW hgs hgw hq
        have e0 : j < 4 → IntKind.i64.wrap ((k0 : Int) + (j : Int)) = (k0 : Int) + (j : Int) := fun _ => by rw [IntKind.wrap_i64]; omega
        by_cases hj4 : j < 4
        · have hjL' : ¬ ((k0 : Int) + (j : Int)) < (L : Int) := by omega
          have hj4' : (j : Int) < 4 := by omega
          replace e0 := e0 hj4
          clear hlt
          go_wp2_with fail
          go_ret
          rw [HE.out.2.2]
          exact ⟨rfl, HE.out.1, HE.out.2.1⟩
        · obtain rfl : j = 4 := by omega
          clear hlt e0
          go_wp2_with fail
          go_ret
          rw [HE.out.2.2]
          exact ⟨rfl, HE.out.1, HE.out.2.1⟩
end Go.Proofs.YthkbbcdnmdjhdaaGreat
/-! XFlC: What befalls both disks, by parts of memory. -/
namespace Go.Proofs.YthkbbcdnmdjhdaaGreat
open Go.RowKit Dk
set_option maxRecDepth 100000
set_option maxHeartbeats 4000000

section
variable {w0 w w' : World} {Y Z : Thing} {s r : Nat} {fp : Option Nat} {z : Option FS} {d : DS}
theorem Lab.flip' (hL : Lab w0 w ((simT s fp d).star Y)) (p : Path) (a : Int) (hA : -9223372036854775808 ≤ a ∧ a ≤ 9223372036854775807) (m : Nat) (hp : p.length ≤ maxLen) (ht : tot d.fs ≤ 1099511627776) :
    Calls Tryz.prog 112 #[.pointer (some ⟨s, 0, none⟩), .string (bstr p), .int .i64 a, .int .u32 (m : Int)] w fun e w' => e = .returned (.bool (flipok p a d.fs)) ∧ Lab w0 w' ((simT s fp (dflip p a m d)).star Y) :=
  hL.simturn fun S hS => flip_any s fp d S p a hA m w hS hp ht
/-- An operation of the reference that may make memory of its own. -/
theorem Lab.refgrow {P : Program} {f : FuncId} {args : Array Value} {d' : DS} {e0 : Ending} (hL : Lab w0 w ((refT r fp d).star Y)) (h : ∀ S, RefAt w r fp d S → Calls P f args w fun e w' => e = e0 ∧ RefAt w' r fp d' (Grow S w w') ∧ Chg S w w') :
    Calls P f args w fun e w' => e = e0 ∧ Lab w0 w' ((refT r fp d').star Y) := by
  refine (Lab.call (Q := fun X' e => e = e0 ∧ X' = refT r fp d') hL ?_).mono ?_
  · intro T hT
    exact (h T hT).mono fun e w' ⟨k1, k2, k3⟩ => ⟨_, ⟨k1, rfl⟩, k3, Grow T w w', fun b hb => hb, k2⟩
  · rintro e w' ⟨X', ⟨h1, rfl⟩, h2⟩
    exact ⟨h1, h2⟩
theorem Lab.rflip (hL : Lab w0 w ((refT r fp d).star Y)) (hz : ∀ b, fp = some b → b < w.heap.size) (p : Path) (a : Int) (hA : -9223372036854775808 ≤ a ∧ a ≤ 9223372036854775807) (m : Nat) (hp : p.length ≤ 140737488351232) (hn : d.fs.length ≤ 4096) (ht : tot d.fs ≤ 5000000) :
    Calls Tryz.prog 113 #[.pointer (some ⟨r, 0, none⟩), .string (bstr p), .int .i64 a, .int .u32 (m : Int)] w fun e w' => e = .returned (.bool (flipok p a d.fs)) ∧ Lab w0 w' ((refT r fp (dflip p a m d)).star Y) :=
  hL.refgrow fun S hS => rflip_any r fp d S p a hA m w hS hn hp ht hz
theorem Lab.rcrash (hL : Lab w0 w ((refT r fp d).star Y)) (hz : ∀ b, fp = some b → b < w.heap.size) (keep : Int) (hk : -9223372036854775808 ≤ keep ∧ keep ≤ 9223372036854775807) (hn : d.fs.length ≤ 4096) (ht : tot d.fs ≤ 5000000) :
    Calls Tryz.prog 65 #[.pointer (some ⟨r, 0, none⟩), .int .i64 keep] w fun e w' => e = .returned (.tuple #[]) ∧ Lab w0 w' ((refT r fp (d.crash keep)).star Y) :=
  hL.refgrow fun S hS => rcrash_any r fp d S keep hk w hS hn ht hz
theorem RefAt.madeown {S : Nat → Prop} {d' : DS} (i : Nat) (u : Value) (h : RefAt w r fp d S)
    (k : ∀ lv es, RRaw w r fp lv es d → ∃ lv' es', RRaw (w.setCell ⟨r, i, none⟩ u) r fp lv' es' d' ∧ ∀ b, RFoot r lv' es' b → RFoot r lv es b) : Made (refT r fp d') S w (w.setCell ⟨r, i, none⟩ u) := by
  obtain ⟨lv, es, h1, h2, h3, h4⟩ := h
  obtain ⟨lv', es', k1, k2⟩ := k lv es h1
  have hc : Chg S w (w.setCell ⟨r, i, none⟩ u) := (Chg.refl S w).at r i (.inl (h2 r (.inl rfl))) u
  exact ⟨hc, S, fun b hb => .inl hb, lv', es', k1, fun b hb => h2 b (k2 b hb), fun b hb => Nat.lt_of_lt_of_le (h3 b hb) hc.size, h4⟩
theorem Lab.roff (hL : Lab w0 w ((refT r fp d).star Y)) (b : Bool) : Lab w0 (w.setCell ⟨r, 3, none⟩ (.bool b)) ((refT r fp { d with off := b }).star Y) :=
  hL.made fun _ hS => RefAt.madeown 3 (.bool b) hS fun lv es h => ⟨lv, es, h.own 3 (.bool b) (h.row.set 3 (.bool b)) rfl h.nb h.nm, fun _ h => h⟩
theorem Lab.rbad (hL : Lab w0 w ((refT r fp d).star Y)) (n : Nat) (hn : n ≤ 9223372036854775807) : Lab w0 (w.setCell ⟨r, 4, none⟩ (.int .i64 (n : Int))) ((refT r fp { d with bad := n }).star Y) :=
  hL.made fun _ hS => RefAt.madeown 4 (.int .i64 (n : Int)) hS fun lv es h => ⟨lv, es, h.own 4 (.int .i64 (n : Int)) (d' := { d with bad := n }) (h.row.set 4 (.int .i64 (n : Int))) rfl hn h.nm, fun _ h => h⟩
theorem Lab.rwipe (hL : Lab w0 w ((refT r fp d).star Y)) : Lab w0 (w.setCell ⟨r, 0, none⟩ (.slice none 0 0)) ((refT r fp { d with fs := [] }).star Y) :=
  hL.made fun _ hS => RefAt.madeown 0 (.slice none 0 0) hS fun lv es h => ⟨.slice none 0 0, [], ⟨h.row.set 0 (.slice none 0 0), OwnK.nil _ _ _ _, List.Pairwise.nil, fun e he => absurd he List.not_mem_nil, rfl, h.nb, h.nm, fun e he => absurd he List.not_mem_nil⟩, fun b hb => by
    rcases hb with hb | hb | ⟨e, he, _⟩
    · exact .inl hb
    · cases hb
    · cases he⟩
theorem Lab.rfset {f : Nat} {zz : FS} (hL : Lab w0 w ((rfuseT (some f) (some zz)).star Y)) (n : Int) (hn : -9223372036854775808 ≤ n ∧ n ≤ 9223372036854775807) :
    Calls Tryz.prog 63 #[.pointer (some ⟨f, 0, none⟩), .int .i64 n] w fun e w' => e = .returned (.tuple #[]) ∧ Lab w0 w' ((rfuseT (some f) (some ⟨n, 0, false⟩)).star Y) := by
  refine (Lab.call (Q := fun X' e => e = .returned (.tuple #[]) ∧ X' = rfuseT (some f) (some ⟨n, 0, false⟩)) hL ?_).mono ?_
  · intro T hT
    exact (rset_any f zz n hn w hT.1).mono fun e w' ⟨k1, k2, k3, k4⟩ => ⟨_, ⟨k1, rfl⟩, k3.mono (fun b _ hb => (hT.2 b).2 (by rw [hb])), T, fun b hb => .inl hb, k2, hT.2⟩
  · rintro e w' ⟨X', ⟨h1, rfl⟩, h2⟩
    exact ⟨h1, h2⟩
/-- The reference's cells. -/
theorem Lab.rraw (h : Lab w0 w (refT r fp d)) : ∃ lv es, RRaw w r fp lv es d := by obtain ⟨T, lv, es, h, _⟩ := h.get; exact ⟨lv, es, h⟩
end
end Go.Proofs.YthkbbcdnmdjhdaaGreat
/-! XFlD: One deed on both disks: what befalls them. -/
namespace Go.Proofs.YthkbbcdnmdjhdaaGreat
open Go.RowKit Dk
set_option maxRecDepth 100000
set_option maxHeartbeats 4000000
attribute [local go_sem] min_int2 max_int2 bstr_toList bstr_size

/-- What a deed (beyond 6) makes of the fuse and the disk. -/
def stepC (z : FS) (d : DS) (x : Deed) : FS × DS :=
  if x.act = 7 then (z, { d with off := bits .and .i64 x.n 1 == 1 }) else if x.act = 8 then (z, { d with bad := x.n.toNat }) else if x.act = 9 then (z, { d with fs := [] })
  else if x.act = 10 then (z, dflip x.a x.n ((4096 + x.b.length % 4294967296) % 4294967296) d) else if x.act = 11 then (z, d.crash x.n) else if x.act = 12 then (⟨x.n, 0, false⟩, d) else (z, d)
theorem both_more (w0 w : World) (Y : Thing) (s r f1 f2 : Nat) (z : FS) (d : DS) (x : Deed) (da : Option Addr) (dc : Nat) (hL : Lab w0 w ((fuseT (some f1) (some z)).star ((simT s (some f1) d).star ((rfuseT (some f2) (some z)).star ((refT r (some f2) d).star Y))))) (hact : ¬ (0 ≤ x.act ∧ x.act ≤ 6)) (hxn : -9223372036854775808 ≤ x.n ∧ x.n ≤ 9223372036854775807)
    (ha : x.a.length ≤ 140737488351232) (hb : x.b.length ≤ maxLen) (hD : Bytes w0 (.slice da x.data.length dc) x.data) (hdl : x.data.length ≤ 140737488351232) (hn : d.fs.length ≤ 4096) (ht : tot d.fs ≤ 5000000) :
    Calls Tryz.prog 79 #[.pointer (some ⟨s, 0, none⟩), .pointer (some ⟨f1, 0, none⟩), .pointer (some ⟨r, 0, none⟩), .agg #[.int .i64 x.act, .int .i64 x.n, .string (bstr x.a), .string (bstr x.b), .slice da x.data.length dc]] w fun e w' =>
      e = .returned (.bool true) ∧ Lab w0 w' ((fuseT (some f1) (some (stepC z d x).1)).star ((simT s (some f1) (stepC z d x).2).star ((rfuseT (some f2) (some (stepC z d x).1)).star ((refT r (some f2) (stepC z d x).2).star Y)))) := by
  obtain ⟨xd, xn, xa, xc, xt⟩ := x
  simp only at ha hb hD hdl hact hxn ⊢
  have HX := Lib.hid (And.intro ha (And.intro hb (And.intro hD (And.intro hdl hxn))))
  have hr := Row.new w 74 #[.int .i64 xd, .int .i64 xn, .string (bstr xa), .string (bstr xc), .slice da xt.length dc]
  have hx1 : Ext w (w.alloc (.cells #[.int .i64 xd, .int .i64 xn, .string (bstr xa), .string (bstr xc), .slice da xt.length dc] 74)) := (Ext.refl w).alloc (Nat.le_refl _) _
  have hL1 := (hL.new hx1 (X := rowT w.heap.size 74 #[.int .i64 xd, .int .i64 xn, .string (bstr xa), .string (bstr xc), .slice da xt.length dc]) (T := fun b => w.heap.size = b) ⟨hr, fun _ => Iff.rfl⟩ (fun _ hb => Nat.le_of_eq hb)).fifth'
  obtain ⟨w2, hw2⟩ : ∃ w2, w.alloc (.cells #[.int .i64 xd, .int .i64 xn, .string (bstr xa), .string (bstr xc), .slice da xt.length dc] 74) = w2 := ⟨_, rfl⟩
  rw [hw2] at hL1
  obtain ⟨xb, hxb⟩ : ∃ xb, w.heap.size = xb := ⟨_, rfl⟩
  rw [hxb] at hL1
  have HL2 := Lib.hid (show Lab w0 w2 ((fuseT (some f1) (some z)).star ((simT s (some f1) d).star ((rfuseT (some f2) (some z)).star ((refT r (some f2) d).star ((rowT xb 74 #[.int .i64 xd, .int .i64 xn, .string (bstr xa), .string (bstr xc), .slice da xt.length dc]).star Y))))) from hL1)
  have hrow := rowT.row hL1.right.right.right.right.left
  have c0 := hrow.cell (i := 0) (v := .int .i64 xd) rfl
  have c2 := hrow.cell (i := 2) (v := .string (bstr xa)) rfl
  have c3 := hrow.cell (i := 3) (v := .string (bstr xc)) rfl
  have c4 := hrow.cell (i := 4) (v := .slice da xt.length dc) rfl
  have c1 := hrow.cell (i := 1) (v := .int .i64 xn) rfl
  clear hL hr hx1 hL1 hrow ha hb hD hdl
  go_enter Tryz.func79, Tryz.ntmps79
  have HRW := Lib.hid (show ∀ W (z1 z2 : FS) (d1 d2 : DS) (xd xn : Int), Lab w0 W ((fuseT (some f1) (some z1)).star ((simT s (some f1) d1).star ((rfuseT (some f2) (some z2)).star ((refT r (some f2) d2).star ((rowT xb 74 #[.int .i64 xd, .int .i64 xn, .string (bstr xa), .string (bstr xc), .slice da xt.length dc]).star Y))))) → W.cell? ⟨xb, 1, none⟩ = some (.int .i64 xn) from fun W z1 z2 d1 d2 xd xn h => (rowT.row h.right.right.right.right.left).cell (i := 1) rfl)
  have HRR := Lib.hid (show ∀ W (X Z V T : Thing) (d2 : DS), Lab w0 W (X.star (Z.star (V.star ((refT r (some f2) d2).star T)))) → ∃ lv, W.cell? ⟨r, 0, none⟩ = some lv ∧ W.cell? ⟨r, 2, none⟩ = some (.pointer (some ⟨f2, 0, none⟩)) ∧ W.cell? ⟨r, 3, none⟩ = some (.bool d2.off) ∧ W.cell? ⟨r, 4, none⟩ = some (.int .i64 d2.bad) ∧ ∀ i, W.frozen? ⟨r, i, none⟩ = false from fun W X Z V T d2 h => by
    obtain ⟨lv, es, h⟩ := h.right.right.right.left.rraw
    exact ⟨lv, h.row.cell (i := 0) rfl, h.row.cell (i := 2) rfl, h.row.cell (i := 3) rfl, h.row.cell (i := 4) rfl, fun i => h.row.unfrozen i⟩)
  by_cases h7 : xd = 7
  · subst h7
    obtain ⟨t, ht7⟩ : ∃ t, bits .and .i64 xn 1 = t := ⟨_, rfl⟩
    have HST := Lib.hid (show stepC z d ⟨7, xn, xa, xc, xt⟩ = (z, { d with off := t == 1 }) by rw [← ht7]; rfl)
    go_wp2_with fail
    refine (HL2.out.swap.offline (t == 1)).mono ?_; rintro e w3 ⟨rfl, hL⟩
    replace hL := hL.swap
    have c1 := HRW.out _ _ _ _ _ _ _ hL
    obtain ⟨lv, -, -, d3, -, u⟩ := HRR.out _ _ _ _ _ _ hL
    have u3 := u 3
    have HF := Lib.hid (hL.fourth.roff (t == 1)).fourth'
    clear hL u
    go_wp2_with fail
    go_ret
    rw [HST.out]
    exact ⟨rfl, Lab.drop5 HF.out⟩
  by_cases h8 : xd = 8
  · subst h8
    have HST := Lib.hid (show stepC z d ⟨8, xn, xa, xc, xt⟩ = (z, { d with bad := xn.toNat }) from rfl)
    obtain ⟨k, hk⟩ : ∃ k, xn.toNat = k := ⟨_, rfl⟩
    have hmax : max xn 0 = (k : Int) := by omega
    go_wp2_with fail
    refine (HL2.out.swap.fail xn HX.out.2.2.2.2.2).mono ?_; rintro e w3 ⟨rfl, hL⟩
    replace hL := hL.swap
    have c1 := HRW.out _ _ _ _ _ _ _ hL
    obtain ⟨lv, -, -, -, d4, u⟩ := HRR.out _ _ _ _ _ _ hL
    have u4 := u 4
    have HF := Lib.hid (hL.fourth.rbad xn.toNat (by have := HX.out.2.2.2.2.2; omega)).fourth'
    rw [hk] at HF
    have HK := Lib.hid hk
    clear hL u hk
    go_wp2_with fail
    go_ret
    rw [HST.out, HK.out]
    exact ⟨rfl, Lab.drop5 HF.out⟩
  by_cases h9 : xd = 9
  · subst h9
    have HST := Lib.hid (show stepC z d ⟨9, xn, xa, xc, xt⟩ = (z, { d with fs := [] }) from rfl)
    go_wp2_with fail
    refine HL2.out.swap.wipe.mono ?_; rintro e w3 ⟨rfl, hL⟩
    replace hL := hL.swap
    obtain ⟨lv, d0, -, -, -, u⟩ := HRR.out _ _ _ _ _ _ hL
    have u0 := u 0
    have HF := Lib.hid hL.fourth.rwipe.fourth'
    clear hL u
    go_wp2_with fail
    go_ret
    rw [HST.out]
    exact ⟨rfl, Lab.drop5 HF.out⟩
  by_cases h10 : xd = 10
  · subst h10
    obtain ⟨q, hq⟩ : ∃ q, dflip xa xn ((4096 + xc.length % 4294967296) % 4294967296) d = q := ⟨_, rfl⟩
    have HST := Lib.hid (show stepC z d ⟨10, xn, xa, xc, xt⟩ = (z, q) by rw [← hq]; rfl)
    obtain ⟨N, hN⟩ : ∃ N, xc.length % 4294967296 = N := ⟨_, rfl⟩
    obtain ⟨M, hM⟩ : ∃ M, (4096 + N) % 4294967296 = M := ⟨_, rfl⟩
    obtain ⟨b, hb⟩ : ∃ b, flipok xa xn d.fs = b := ⟨_, rfl⟩
    have e1 : IntKind.u32.wrap ((xc.length : Nat) : Int) = (N : Int) := by rw [IntKind.wrap_u32]; omega
    have e2 : IntKind.u32.wrap (4096 + (N : Int)) = (M : Int) := by rw [IntKind.wrap_u32]; omega
    rw [hN, hM] at hq
    have HQ := Lib.hid (And.intro hq hb)
    have SS : Hid (∀ W (D1 D2 : DS), Lab w0 W ((fuseT (some f1) (some z)).star ((simT s (some f1) D1).star ((rfuseT (some f2) (some z)).star ((refT r (some f2) D2).star ((rowT xb 74 #[.int .i64 10, .int .i64 xn, .string (bstr xa), .string (bstr xc), .slice da xt.length dc]).star Y))))) → (fun w' : World => w'.cell? ⟨xb, 1, none⟩ = some (.int .i64 xn) ∧ w'.cell? ⟨xb, 2, none⟩ = some (.string (bstr xa)) ∧ w'.cell? ⟨xb, 3, none⟩ = some (.string (bstr xc))) W) := Lib.hid fun W D1 D2 h => ⟨HRW.out _ _ _ _ _ _ _ h, (rowT.row h.right.right.right.right.left).cell (i := 2) rfl, (rowT.row h.right.right.right.right.left).cell (i := 3) rfl⟩
    have A1 : Hid (∀ W, Lab w0 W ((fuseT (some f1) (some z)).star ((simT s (some f1) d).star ((rfuseT (some f2) (some z)).star ((refT r (some f2) d).star ((rowT xb 74 #[.int .i64 10, .int .i64 xn, .string (bstr xa), .string (bstr xc), .slice da xt.length dc]).star Y))))) → Calls Tryz.prog 112 #[.pointer (some ⟨s, 0, none⟩), .string (bstr xa), .int .i64 xn, .int .u32 (M : Int)] W fun e w' => e = .returned (.bool b) ∧ (fun w' : World => w'.cell? ⟨xb, 1, none⟩ = some (.int .i64 xn) ∧ w'.cell? ⟨xb, 2, none⟩ = some (.string (bstr xa)) ∧ w'.cell? ⟨xb, 3, none⟩ = some (.string (bstr xc))) w' ∧ Lab w0 w' ((fuseT (some f1) (some z)).star ((simT s (some f1) q).star ((rfuseT (some f2) (some z)).star ((refT r (some f2) d).star ((rowT xb 74 #[.int .i64 10, .int .i64 xn, .string (bstr xa), .string (bstr xc), .slice da xt.length dc]).star Y)))))) := Lib.hid fun W hL => by
      refine (hL.swap.flip' xa xn HX.out.2.2.2.2 M (Nat.le_trans HX.out.1 (by decide)) (by omega)).mono ?_
      rintro e w' ⟨h1, h2⟩
      rw [HQ.out.2] at h1
      rw [HQ.out.1] at h2
      exact ⟨h1, SS.out _ _ _ h2.swap, h2.swap⟩
    have A2 : Hid (∀ W, Lab w0 W ((fuseT (some f1) (some z)).star ((simT s (some f1) q).star ((rfuseT (some f2) (some z)).star ((refT r (some f2) d).star ((rowT xb 74 #[.int .i64 10, .int .i64 xn, .string (bstr xa), .string (bstr xc), .slice da xt.length dc]).star Y))))) → Calls Tryz.prog 113 #[.pointer (some ⟨r, 0, none⟩), .string (bstr xa), .int .i64 xn, .int .u32 (M : Int)] W fun e w' => e = .returned (.bool b) ∧ (fun w' : World => w'.cell? ⟨xb, 1, none⟩ = some (.int .i64 xn) ∧ w'.cell? ⟨xb, 2, none⟩ = some (.string (bstr xa)) ∧ w'.cell? ⟨xb, 3, none⟩ = some (.string (bstr xc))) w' ∧ Lab w0 w' ((fuseT (some f1) (some z)).star ((simT s (some f1) q).star ((rfuseT (some f2) (some z)).star ((refT r (some f2) q).star ((rowT xb 74 #[.int .i64 10, .int .i64 xn, .string (bstr xa), .string (bstr xc), .slice da xt.length dc]).star Y)))))) := Lib.hid fun W hL => by
      refine (hL.fourth.rflip (fun b hb => hL.flip.rz.lt b hb) xa xn HX.out.2.2.2.2 M HX.out.1 hn ht).mono ?_
      rintro e w' ⟨h1, h2⟩
      rw [HQ.out.2] at h1
      rw [HQ.out.1] at h2
      exact ⟨h1, SS.out _ _ _ h2.fourth', h2.fourth'⟩
    have x0 := HL2.out.drew
    have S0 : (fun w' : World => w'.cell? ⟨xb, 1, none⟩ = some (.int .i64 xn) ∧ w'.cell? ⟨xb, 2, none⟩ = some (.string (bstr xa)) ∧ w'.cell? ⟨xb, 3, none⟩ = some (.string (bstr xc))) w2.drew := SS.out _ _ _ x0
    clear hq hN hM hb
    go_wp2_with fail
    go_region_held3 (fun w' : World => w'.cell? ⟨xb, 1, none⟩ = some (.int .i64 xn) ∧ w'.cell? ⟨xb, 2, none⟩ = some (.string (bstr xa)) ∧ w'.cell? ⟨xb, 3, none⟩ = some (.string (bstr xc))) (assumption) (first | (go_at_call 112; refine (A1.out _ x0).mono ?_; rintro e w4 ⟨rfl, hS4, hL4⟩) | (go_at_call 113; refine (A2.out _ hL4).mono ?_; rintro e w5 ⟨rfl, hS5, hL5⟩))
    have HF := Lib.hid hL5
    clear x0 S0 hS4 hL4 hS5 hL5
    go_wp2_with fail
    go_ret
    rw [HST.out]
    exact ⟨rfl, Lab.drop5 HF.out⟩
  by_cases h11 : xd = 11
  · subst h11
    have HST := Lib.hid (show stepC z d ⟨11, xn, xa, xc, xt⟩ = (z, d.crash xn) from rfl)
    go_wp2_with fail
    refine (HL2.out.swap.crash xn HX.out.2.2.2.2 (by omega)).mono ?_; rintro e w3 ⟨rfl, hL⟩
    replace hL := hL.swap
    have c1 := HRW.out _ _ _ _ _ _ _ hL
    have L3 := Lib.hid hL
    clear hL
    go_wp2_with fail
    refine (L3.out.fourth.rcrash (fun b hb => L3.out.flip.rz.lt b hb) xn HX.out.2.2.2.2 hn ht).mono ?_; rintro e w4 ⟨rfl, hL⟩
    have HF := Lib.hid hL.fourth'
    clear hL
    go_wp2_with fail
    go_ret
    rw [HST.out]
    exact ⟨rfl, Lab.drop5 HF.out⟩
  by_cases h12 : xd = 12
  · subst h12
    have HST := Lib.hid (show stepC z d ⟨12, xn, xa, xc, xt⟩ = (⟨xn, 0, false⟩, d) from rfl)
    go_wp2_with fail
    refine (HL2.out.fset xn HX.out.2.2.2.2).mono ?_; rintro e w3 ⟨rfl, hL⟩
    have c1 := HRW.out _ _ _ _ _ _ _ hL
    obtain ⟨lv, -, d2, -, -, -⟩ := HRR.out _ _ _ _ _ _ hL
    have L3 := Lib.hid hL
    clear hL
    have A1 : Hid (∀ W, Lab w0 W ((fuseT (some f1) (some ⟨xn, 0, false⟩)).star ((simT s (some f1) d).star ((rfuseT (some f2) (some z)).star ((refT r (some f2) d).star ((rowT xb 74 #[.int .i64 12, .int .i64 xn, .string (bstr xa), .string (bstr xc), .slice da xt.length dc]).star Y))))) → Calls Tryz.prog 63 #[.pointer (some ⟨f2, 0, none⟩), .int .i64 xn] W fun e w' => e = .returned (.tuple #[]) ∧ (fun w' : World => w'.cell? ⟨r, 2, none⟩ = some (.pointer (some ⟨f2, 0, none⟩)) ∧ w'.cell? ⟨xb, 1, none⟩ = some (.int .i64 xn)) w' ∧ Lab w0 w' ((fuseT (some f1) (some ⟨xn, 0, false⟩)).star ((simT s (some f1) d).star ((rfuseT (some f2) (some ⟨xn, 0, false⟩)).star ((refT r (some f2) d).star ((rowT xb 74 #[.int .i64 12, .int .i64 xn, .string (bstr xa), .string (bstr xc), .slice da xt.length dc]).star Y)))))) := Lib.hid fun W hL => by
      refine (hL.flip.rfset xn HX.out.2.2.2.2).mono ?_
      rintro e w' ⟨h1, h2⟩
      have h3 := h2.flip
      obtain ⟨lv, -, k2, -, -, -⟩ := HRR.out _ _ _ _ _ _ h3
      exact ⟨h1, ⟨k2, HRW.out _ _ _ _ _ _ _ h3⟩, h3⟩
    have x0 := L3.out.drew
    have S0 : (fun w' : World => w'.cell? ⟨r, 2, none⟩ = some (.pointer (some ⟨f2, 0, none⟩)) ∧ w'.cell? ⟨xb, 1, none⟩ = some (.int .i64 xn)) w3.drew := ⟨d2, c1⟩
    go_wp2_with fail
    go_region_held3 (fun w' : World => w'.cell? ⟨r, 2, none⟩ = some (.pointer (some ⟨f2, 0, none⟩)) ∧ w'.cell? ⟨xb, 1, none⟩ = some (.int .i64 xn)) (assumption) (first | (go_at_call 63; refine (A1.out _ x0).mono ?_; rintro e w4 ⟨rfl, hS4, hL4⟩))
    have HF := Lib.hid hL4
    clear x0 S0 hS4 hL4
    go_wp2_with fail
    go_ret
    rw [HST.out]
    exact ⟨rfl, Lab.drop5 HF.out⟩
  have HST := Lib.hid (show stepC z d ⟨xd, xn, xa, xc, xt⟩ = (z, d) by unfold stepC; rw [if_neg h7, if_neg h8, if_neg h9, if_neg h10, if_neg h11, if_neg h12])
  by_cases hd1 : 0 ≤ xd
  · have hd2 : ¬ xd ≤ 6 := fun h => hact ⟨hd1, h⟩
    clear hact
    go_wp2_with fail
    go_ret
    rw [HST.out]
    exact ⟨rfl, Lab.drop5 HL2.out⟩
  · clear hact
    go_wp2_with fail
    go_ret
    rw [HST.out]
    exact ⟨rfl, Lab.drop5 HL2.out⟩
end Go.Proofs.YthkbbcdnmdjhdaaGreat
/-! XFlE: Same: both disks hold the same. -/
namespace Go.Proofs.YthkbbcdnmdjhdaaGreat
open Go.RowKit Dk
set_option maxRecDepth 100000
set_option maxHeartbeats 4000000
attribute [local go_sem] min_int2 max_int2 bstr_toList bstr_size

theorem dsame_any (w0 w : World) (Z : Thing) (s r : Nat) (fp rf : Option Nat) (d : DS) (hL : Lab w0 w ((simT s fp d).star ((refT r rf d).star Z))) (hn : d.fs.length ≤ 4096) (ht : tot d.fs ≤ 5000000) :
    Calls Tryz.prog 80 #[.pointer (some ⟨s, 0, none⟩), .pointer (some ⟨r, 0, none⟩)] w fun e w' => e = .returned (.bool true) ∧ Lab w0 w' ((simT s fp d).star ((refT r rf d).star Z)) := by
  have HL := Lib.hid hL
  clear hL
  go_enter Tryz.func80, Tryz.ntmps80
  go_wp2_with fail
  refine (Lab.files HL.out HL.out.left hn).mono ?_; rintro e w2 ⟨nv, rfl, hL⟩
  obtain ⟨na, nc, hu⟩ := Own.slice' (ownT.own hL.left)
  rw [pvs_len] at hu
  subst hu
  obtain ⟨n, hnn⟩ : ∃ n, d.fs.length = n := ⟨_, rfl⟩
  have hpn : (paths d.fs).length = n := by unfold paths; rw [List.length_map]; exact hnn
  rw [hpn] at hL ⊢
  obtain ⟨lv, es, hr⟩ := hL.right.right.left.rraw
  have hen : es.length = n := by have h1 := hr.fs; rw [← hnn, h1]; exact (mapv_length _ _).symm
  obtain ⟨la, lc, hlv⟩ := hr.lst.slice
  rw [hen] at hlv
  subst hlv
  obtain ⟨SS, hsim⟩ := hL.right.left.simAt
  have hraw := hL.right.left.raw
  have c0 := hr.row.cell (i := 0) (v := .slice la n lc) rfl
  have c1 := hr.row.cell (i := 1) (v := .int .i64 (d.most : Int)) rfl
  obtain ⟨t, htt⟩ : ∃ t, tot d.fs = t := ⟨_, rfl⟩
  have hmo := hr.nm
  have HX := Lib.hid (And.intro hL (And.intro hr (And.intro hen (And.intro hsim (And.intro hnn htt)))))
  have A1 : Hid (∀ W, Ext w2 W → Calls Tryz.prog 84 #[.pointer (some ⟨s, 0, none⟩)] W fun e w' => e = .returned (.int .i64 (t : Nat)) ∧ (fun w' : World => w'.cell? ⟨r, 0, none⟩ = some (.slice la n lc) ∧ w'.cell? ⟨r, 1, none⟩ = some (.int .i64 (d.most : Int))) w' ∧ Ext w2 w') := Lib.hid fun W hx => by
    obtain ⟨m, es1, h1⟩ := hraw
    refine (used_any s m fp es1 d W (h1.chg (Chg.of_ext hx (fun _ => False)) fun _ _ h => h) (by omega)).mono ?_
    rintro e w' ⟨k1, k2⟩
    rw [htt] at k1
    exact ⟨k1, ⟨(hx.trans k2).cell c0, (hx.trans k2).cell c1⟩, hx.trans k2⟩
  have A2 : Hid (∀ W, Ext w2 W → Calls Tryz.prog 103 #[.pointer (some ⟨r, 0, none⟩)] W fun e w' => e = .returned (.int .i64 (t : Nat)) ∧ (fun w' : World => w'.cell? ⟨r, 0, none⟩ = some (.slice la n lc) ∧ w'.cell? ⟨r, 1, none⟩ = some (.int .i64 (d.most : Int))) w' ∧ Ext w2 w') := Lib.hid fun W hx => by
    refine (rused_any r rf _ es d W (hr.ext hx) (by omega) (by omega)).mono ?_
    rintro e w' ⟨k1, rfl⟩
    rw [htt] at k1
    exact ⟨k1, ⟨hx.cell c0, hx.cell c1⟩, hx⟩
  have A3 : Hid (∀ W, Ext w2 W → Calls Tryz.prog 114 #[.pointer (some ⟨s, 0, none⟩)] W fun e w' => e = .returned (.int .i64 ((d.most : Int) - (t : Nat))) ∧ (fun w' : World => w'.cell? ⟨r, 0, none⟩ = some (.slice la n lc) ∧ w'.cell? ⟨r, 1, none⟩ = some (.int .i64 (d.most : Int))) w' ∧ Ext w2 w') := Lib.hid fun W hx => by
    refine (sroom_any s fp d SS W (hsim.ext hx) (by omega)).mono ?_
    rintro e w' ⟨k1, k2⟩
    rw [htt] at k1
    exact ⟨k1, ⟨(hx.trans k2).cell c0, (hx.trans k2).cell c1⟩, hx.trans k2⟩
  have A4 : Hid (∀ W (q : Path) (f : Fil), Ext w2 W → Dk.get q d.fs = some f → q.length ≤ maxLen → Calls Tryz.prog 47 #[.pointer (some ⟨s, 0, none⟩), .string (bstr q)] W fun e w' => ∃ u, e = .returned (.tuple #[u, .bool f.sure, .bool true]) ∧ Own w' 0 5 u (bvs f.b) ∧ Ext w2 w') := Lib.hid fun W q f hx hg hq => by
    refine (look_any s fp d SS q W (hsim.ext hx) hq (by omega)).mono ?_
    rintro e w' ⟨u, k1, k2, k3⟩
    rw [hg] at k1 k2
    exact ⟨u, k1, k2.mono (Nat.zero_le _), hx.trans k3⟩
  have x0 : Ext w2 w2.drew := Ext.of_drawn w2 1
  have S0 : (fun w' : World => w'.cell? ⟨r, 0, none⟩ = some (.slice la n lc) ∧ w'.cell? ⟨r, 1, none⟩ = some (.int .i64 (d.most : Int))) w2.drew := ⟨c0, c1⟩
  have ew : IntKind.i64.wrap ((d.most : Int) - (t : Int)) = (d.most : Int) - (t : Int) := by rw [IntKind.wrap_i64]; omega
  clear hL hr hen hsim hraw hpn hnn htt
  go_wp2_with fail
  go_region_held3 (fun w' : World => w'.cell? ⟨r, 0, none⟩ = some (.slice la n lc) ∧ w'.cell? ⟨r, 1, none⟩ = some (.int .i64 (d.most : Int))) (assumption) (first | (go_at_call 84; with_reducible refine (A1.out _ x0).mono ?_; rintro e w4 ⟨rfl, hS4, x4⟩) | (go_at_call 114; with_reducible refine (A3.out _ x5).mono ?_; rintro e w6 ⟨rfl, hS6, x6⟩) | (go_at_call 103; with_reducible refine (A2.out _ x6).mono ?_; rintro e w7 ⟨rfl, hS7, x7⟩) | (go_at_call 103; with_reducible refine (A2.out _ x4).mono ?_; rintro e w5 ⟨rfl, hS5, x5⟩))
  have X7 := Lib.hid x7
  clear x0 S0 hS4 x4 hS5 x5 hS6 x6 hS7 x7 c0 c1 A1 A2 A3 ew
  go_wp2_with fail
  go_loopw [6] (fun v6 wr => ∃ i : Nat, i ≤ n ∧ v6 = .int .i64 (i : Nat) ∧ Hid (Ext w2 wr)) (fun v6 _ => (n - intOf v6).toNat)
  case atStart => exact ⟨0, by omega, rfl, X7⟩
  case round =>
    obtain ⟨i, hi, rfl, HI⟩ := hrel
    by_cases hlt : i < n
    · have hlt' : (i : Int) < (n : Int) := by omega
      have hil : i < es.length := by have := HX.out.2.2.1; omega
      have hidf : i < d.fs.length := by have := HX.out.2.2.2.2.1; omega
      obtain ⟨⟨q, x⟩, hx⟩ : ∃ e, es[i] = e := ⟨_, rfl⟩
      have hfile := HX.out.2.1.file _ (List.getElem_mem hil)
      have hpl := HX.out.2.1.pl _ (List.getElem_mem hil)
      obtain ⟨g, cap, e1, -, d0, d1, d2, -⟩ := HX.out.2.1.entry hil
      simp only [Value.slice.injEq] at e1
      obtain ⟨rfl, -, -⟩ := e1
      rw [hx] at d0 d1 d2 hfile hpl
      have hgq : Dk.get q es = some x := get_of_mem HX.out.2.1.up (x := x) (by rw [← hx]; exact List.getElem_mem hil)
      have hg : Dk.get q d.fs = some x.f := by rw [HX.out.2.1.fs]; unfold rfils; rw [get_mapv, hgq]; rfl
      have hpa : (paths d.fs)[i]? = some q := by
        rw [HX.out.2.1.fs]; unfold paths rfils mapv
        rw [List.map_map, List.getElem?_map, List.getElem?_eq_getElem hil, hx]; rfl
      obtain ⟨b, o, rfl, p0⟩ := Strs.at (ownT.own HX.out.1.left) (List.getElem?_eq_some_iff.1 hpa).1
      rw [(List.getElem?_eq_some_iff.1 hpa).2] at p0
      obtain ⟨xa, xc, hv⟩ := Own.slice' hfile
      rw [show (q, x).2.v = x.v from rfl] at d1 hv
      rw [show (q, x).2.f.sure = x.f.sure from rfl] at d2
      rw [show (q, x).1 = q from rfl] at d0
      have hcs := hfile.cells
      rw [show (q, x).2.v = x.v from rfl, hv] at hcs
      rw [hv] at d1
      have HFX := Lib.hid (And.intro hcs (And.intro hg hpl))
      obtain ⟨fb, hfb⟩ : ∃ fb, x.f.b = fb := ⟨_, rfl⟩
      rw [show (q, x).2.f.b = fb from hfb, bvs_len] at d1 HFX hv
      obtain ⟨sv, hsv⟩ : ∃ sv, x.f.sure = sv := ⟨_, rfl⟩
      rw [hsv] at d2
      have c0 := (HX.out.2.1.row.cell (i := 0) (v := .slice (some ⟨g, 0, none⟩) n lc) rfl)
      have p1 := HI.out.cell p0
      have HC := Lib.hid (And.intro p0 (And.intro c0 (And.intro d0 (And.intro d1 d2))))
      have HS := Lib.hid (And.intro hfb hsv)
      clear p0 c0 d0 d1 d2 hcs hg hpl hfile hpa hgq hv hx hfb hsv
      go_wp2_with fail
      refine (A4.out _ q x.f HI.out HFX.out.2.1 (Nat.le_trans HFX.out.2.2 (by decide))).mono ?_; rintro e w6 ⟨u, rfl, hO, x6⟩
      obtain ⟨ua, uc, hu⟩ := Own.slice' hO
      rw [bvs_len] at hu
      subst hu
      rw [HS.out.1, HS.out.2]
      rw [HS.out.1] at hO
      have y0 := str_conv (l := fb) hO.cells
      have y1 : ∀ n, (convert 24 9 (.slice ua fb.length uc)).run Tryz.prog (w6.drewN n) = .ok (.string (bstr fb)) (w6.drewN n) := fun n => y0 _ (Ext.of_drawn w6 n)
      have z0 := str_conv (l := fb) HFX.out.1
      have z1 : ∀ n, (convert 24 9 (.slice xa fb.length xc)).run Tryz.prog (w6.drewN n) = .ok (.string (bstr fb)) (w6.drewN n) := fun n => z0 _ (x6.trans (Ext.of_drawn w6 n))
      have c0 := x6.cell HC.out.1
      have c1 := x6.cell HC.out.2.1
      have c2 := x6.cell HC.out.2.2.1
      have c3 := x6.cell HC.out.2.2.2.1
      have c4 := x6.cell HC.out.2.2.2.2
      have X6 := Lib.hid x6
      clear y0 z0 hO x6
      go_wp2_with fail
      go_quiet (fail)
      have HN := Lib.hid (X6.out.trans (Ext.of_drawn w6 nq))
      clear c0 c1 c2 c3 c4 y1 z1
      go_wp2_with fail
      exact ⟨⟨i + 1, by omega, by go_num, HN⟩, by simp [intOf]; omega⟩
    · obtain rfl : n = i := by omega
      clear hlt
      go_wp2_with fail
      go_ret
      exact ⟨rfl, (HX.out.1.ext HI.out).right⟩
end Go.Proofs.YthkbbcdnmdjhdaaGreat
