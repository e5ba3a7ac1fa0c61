/-
  Flip of a disk.
  Flip of the reference's disk.
  What befalls both disks, by parts of memory.
  One deed on both disks: what befalls them.
  Same: both disks hold the same.
-/
import Derived.Test.YthkbbcdnmdjhdaaD6
import Derived.Laws.BitsAllLaws
/-! XFlA: Flip of a disk. -/
namespace Go.Proofs.Ythkbbcdnmdjhdaa
open Go.RowKit Dk
set_option maxRecDepth 100000
set_option maxHeartbeats 4000000
attribute [local go_sem] min_int2 max_int2 bstr_toList bstr_size

/-- What a byte is turned to by the k-th byte of a mask. -/
def fby (y : UInt8) (m k : Nat) : UInt8 := UInt8.ofNat (y.toNat ^^^ (m / 2 ^ (8 * k)) % 256)
theorem fby_bits (y : UInt8) (m k B : Nat) (h : m / 2 ^ (8 * k) % 256 = B) : bits .xor .u8 (y.toNat : Int) (B : Int) = ((fby y m k).toNat : Int) := by
  have hy : y.toNat < 256 := y.toNat_lt
  have hB : B < 256 := by omega
  rw [u8_xor_nat _ _ hy hB]
  unfold fby
  rw [h, UInt8.toNat_ofNat_of_lt' (Nat.xor_lt_two_pow (n := 8) hy hB)]
/-- k bytes from a on are turned. -/
def flipl (b : List UInt8) (a m : Nat) : Nat → List UInt8
  | 0 => b
  | k + 1 => match (flipl b a m k)[a + k]? with
    | some y => (flipl b a m k).set (a + k) (fby y m k)
    | none => flipl b a m k
theorem flipl_length (b : List UInt8) (a m : Nat) : ∀ k, (flipl b a m k).length = b.length
  | 0 => rfl
  | k + 1 => by
    have ih := flipl_length b a m k
    unfold flipl
    split
    · rw [List.length_set, ih]
    · exact ih
theorem flipl_succ (b : List UInt8) (a m k : Nat) {y : UInt8} (h : (flipl b a m k)[a + k]? = some y) : flipl b a m (k + 1) = (flipl b a m k).set (a + k) (fby y m k) := by
  show (match (flipl b a m k)[a + k]? with | some y => _ | none => _) = _
  rw [h]
theorem flipl_past (b : List UInt8) (a m k : Nat) (h : b.length ≤ a + k) : flipl b a m (k + 1) = flipl b a m k := by
  show (match (flipl b a m k)[a + k]? with | some y => _ | none => _) = _
  rw [List.getElem?_eq_none (by rw [flipl_length]; exact h)]
theorem flipl_stop (b : List UInt8) (a m : Nat) {k : Nat} (h : b.length ≤ a + k) : ∀ j, flipl b a m (k + j) = flipl b a m k
  | 0 => rfl
  | j + 1 => by
    rw [← Nat.add_assoc, flipl_past b a m (k + j) (by omega)]
    exact flipl_stop b a m h j
/-- One byte of a file written. -/
theorem Raw.poke {w : World} {s m : Nat} {fp : Option Nat} {es : L Ent} {d : DS} (h : Raw w s fp m es d) {p : Path} {x : Ent} (hx : Dk.get p es = some x) {g n c : Nat} (hv : x.v = .slice (some ⟨g, 0, none⟩) n c) (i : Nat) (y : UInt8) :
    Raw (w.setCell ⟨g, i, none⟩ (bv y)) s fp m (Dk.put p ⟨x.q, x.v, ⟨x.f.b.set i y, x.f.sure⟩⟩ es) { d with fs := Dk.put p ⟨x.f.b.set i y, x.f.sure⟩ d.fs } ∧ Chg (fun b => b = g) w (w.setCell ⟨g, i, none⟩ (bv y)) := by
  have hc : Chg (fun b => b = g) w (w.setCell ⟨g, i, none⟩ (bv y)) := (Chg.refl (fun b => b = g) w).at g i (.inl rfl) (bv y)
  have hm := get_mem hx
  have hf := h.file _ hm
  have hown : x.v.ownBlock = some g := by rw [hv]; rfl
  have hO : Own w 0 5 x.v (bvs x.f.b) := hf.2
  obtain ⟨cur, hrow⟩ := hO.row hown
  have hrm : m ≠ g := fun e => h.map.own hO (by rw [hown, e])
  have hrs : s ≠ g := fun e => (h.sim.2 _ hm).2 (by rw [show (p, x).2.v = x.v from rfl, hown, e])
  have hqn : ∀ e ∈ es, e.2.q ≠ g := fun e he e1 => by
    subst e1
    exact hO.ne (h.file e he).1 (fun x => ty_file_byte x.symm) hown
  refine ⟨⟨h.row.chg hc hrs, ?_, put_up h.up, fun e he => ?_, fun e he e' he' hne => ?_, ?_, h.nb, h.nm⟩, hc⟩
  · have h1 := h.map.chg hc hrm
    have h2 : qs (Dk.put p ⟨x.q, x.v, ⟨x.f.b.set i y, x.f.sure⟩⟩ es) = qs es := by
      show mapv (fun x : Ent => x.q) (Dk.put p ⟨x.q, x.v, ⟨x.f.b.set i y, x.f.sure⟩⟩ es) = _
      rw [← put_mapv (fun x : Ent => x.q)]
      exact put_same (h.up.mapv _) (by rw [get_mapv, hx]; rfl)
    rw [h2]; exact h1
  · rcases mem_put.1 he with rfl | ⟨he, hne⟩
    · refine ⟨hf.1.chg hc (hqn _ hm), ?_⟩
      show Own _ 0 5 x.v (bvs (x.f.b.set i y))
      have h1 : Own w 0 5 (.slice (some ⟨g, 0, none⟩) n c) (bvs x.f.b) := by rw [← hv]; exact hO
      have h2 := h1.set i (bv y)
      rw [hv, show bvs (x.f.b.set i y) = (bvs x.f.b).set i (bv y) from List.map_set]
      exact h2
    · refine (h.file e he).chg hc (hqn e he) fun b hb e1 => ?_
      subst e1
      have := (h.apart e he (p, x) hm hne).2
      rcases this with h3 | h3
      · rw [h3] at hb; cases hb
      · exact h3 (by rw [hb, show (p, x).2.v = x.v from rfl, hown])
  · have old : ∀ e ∈ Dk.put p ⟨x.q, x.v, ⟨x.f.b.set i y, x.f.sure⟩⟩ es, ∃ e0 ∈ es, e0.1 = e.1 ∧ e0.2.q = e.2.q ∧ e0.2.v = e.2.v := fun e he => by
      rcases mem_put.1 he with rfl | ⟨he, -⟩
      · exact ⟨(p, x), hm, rfl, rfl, rfl⟩
      · exact ⟨e, he, rfl, rfl, rfl⟩
    obtain ⟨e0, h0, a1, a2, a3⟩ := old e he
    obtain ⟨e0', h0', b1, b2, b3⟩ := old e' he'
    have := h.apart e0 h0 e0' h0' (by rw [a1, b1]; exact hne)
    unfold EApart at this ⊢
    rw [a2, a3, b2, b3] at this
    exact this
  · show Dk.put p _ d.fs = fils (Dk.put p _ es)
    rw [h.fs]
    exact put_mapv (fun x : Ent => x.f) p ⟨x.q, x.v, ⟨x.f.b.set i y, x.f.sure⟩⟩ es
theorem put_put {l : L Fil} (hu : Up l) (p : Path) (x y : Fil) : put p y (put p x l) = put p y l := get_ext (put_up (put_up hu)) (put_up hu) fun q => by
  rw [get_put (put_up hu), get_put hu, get_put hu]
  by_cases e : p = q
  · rw [if_pos e, if_pos e]
  · rw [if_neg e, if_neg e, if_neg e]
def flipok (p : Path) (a : Int) (l : L Fil) : Bool := match get p l with
  | some f => decide (0 ≤ a ∧ a < f.b.length)
  | none => false
def dflip (p : Path) (a : Int) (m : Nat) (d : DS) : DS := match get p d.fs with
  | some f => if 0 ≤ a ∧ a < f.b.length then { d with fs := put p ⟨flipl f.b a.toNat m 4, f.sure⟩ d.fs } else d
  | none => d
/-- Behind j bytes. -/
def FlipI (w wr : World) (s mp : Nat) (fp : Option Nat) (d : DS) (S : Nat → Prop) (p : Path) (x : Ent) (g xc k0 m : Nat) (_es : L Ent) (j : Nat) : Prop :=
  ∃ (es' : L Ent) (x' : Ent), Raw wr s fp mp es' { d with fs := put p ⟨flipl x.f.b k0 m j, x.f.sure⟩ d.fs } ∧ get p es' = some x' ∧ x'.q = x.q ∧ x'.f = ⟨flipl x.f.b k0 m j, x.f.sure⟩ ∧ x'.v = .slice (some ⟨g, 0, none⟩) x.f.b.length xc ∧ True ∧ (∀ b, Foot s mp es' b → S b) ∧ Chg S w wr
theorem flip_any (s : Nat) (fp : Option Nat) (d : DS) (S : Nat → Prop) (p : Path) (a : Int) (hA : -9223372036854775808 ≤ a ∧ a ≤ 9223372036854775807) (m : Nat) (w : World) (h : SimAt w s fp d S) (hp : p.length ≤ maxLen) (ht : tot d.fs ≤ 1099511627776) :
    Calls Try.prog 27 #[.pointer (some ⟨s, 0, none⟩), .string (bstr p), .int .i64 a, .int .u32 (m : Int)] w fun e w' => e = .returned (.bool (flipok p a d.fs)) ∧ SimAt w' s fp (dflip p a m d) S ∧ Chg S w w' := by
  obtain ⟨mp, es, h, hS1, hS2, hS3⟩ := h
  have H := Lib.hid h
  have HS := Lib.hid (And.intro hS1 (And.intro hS2 hS3))
  have c2 := h.row.cell (i := 2) (v := .map (some mp)) rfl
  have lk := h.map.look p hp
  have hs0 : (binOp .eql 41 (.pointer (some ⟨s, 0, none⟩)) (.pointer none)).run Try.prog w = .ok (.bool false) w := by go_simp
  clear h hS1 hS2 hS3
  rw [qs_get] at lk
  cases hx : get p es with
  | none =>
    have hg : get p d.fs = none := by rw [H.out.fs, fils_get, hx]; rfl
    have HR := Lib.hid (show flipok p a d.fs = false ∧ dflip p a m d = d by unfold flipok dflip; rw [hg]; exact ⟨rfl, rfl⟩)
    rw [hx] at lk
    simp only [Option.map_none, Option.isSome_none] at lk
    clear hx hg
    go_enter Try.func27, Try.ntmps27
    go_wp2_with fail
    go_ret
    rw [HR.out.1, HR.out.2]
    exact ⟨rfl, ⟨mp, es, H.out, HS.out⟩, Chg.refl _ _⟩
  | some x =>
    have hg : get p d.fs = some x.f := by rw [H.out.fs, fils_get, hx]; rfl
    rw [hx] at lk
    simp only [Option.map_some, Option.isSome_some] at lk
    have hfile := H.out.file _ (get_mem hx)
    have d0 := hfile.1.cell (i := 0) (v := x.v) rfl
    obtain ⟨xa, xc, hv⟩ := Own.slice' hfile.2
    rw [bvs_len] at hv
    have hv : x.v = .slice xa x.f.b.length xc := hv
    rw [show (p, x).2.v = x.v from rfl] at d0
    obtain ⟨L, hL⟩ : ∃ L, x.f.b.length = L := ⟨_, rfl⟩
    have hLb : L ≤ 1099511627776 := by
      have h1 := tot_mem (l := d.fs) (e := (p, x.f)) (get_mem hg)
      have h2 : x.f.b.length ≤ tot d.fs := h1
      omega
    rw [hv, hL] at d0
    have HX := Lib.hid (And.intro hx (And.intro hg (And.intro hv hL)))
    clear hx hg hfile hv
    go_enter Try.func27, Try.ntmps27
    by_cases ha0 : a < 0
    · have HR := Lib.hid (show flipok p a d.fs = false ∧ dflip p a m d = d by unfold flipok dflip; rw [HX.out.2.1]; exact ⟨decide_eq_false (fun h => by omega), if_neg (fun h => by omega)⟩)
      go_wp2_with fail
      go_ret
      rw [HR.out.1, HR.out.2]
      exact ⟨rfl, ⟨mp, es, H.out, HS.out⟩, Chg.refl _ _⟩
    by_cases ha1 : (L : Int) ≤ a
    · have HR := Lib.hid (show flipok p a d.fs = false ∧ dflip p a m d = d by unfold flipok dflip; rw [HX.out.2.1]; exact ⟨decide_eq_false (fun h => by have := HX.out.2.2.2; omega), if_neg (fun h => by have := HX.out.2.2.2; omega)⟩)
      have ha0' : 0 ≤ a := by omega
      clear ha0
      go_wp2_with fail
      go_ret
      rw [HR.out.1, HR.out.2]
      exact ⟨rfl, ⟨mp, es, H.out, HS.out⟩, Chg.refl _ _⟩
    obtain ⟨k0, rfl⟩ := Int.eq_ofNat_of_zero_le (show 0 ≤ a by omega)
    have hkL : k0 < L := by omega
    have hkL2 : (k0 : Int) < (L : Int) := by omega
    clear ha0 ha1
    obtain ⟨g, hxa⟩ : ∃ g, xa = some ⟨g, 0, none⟩ := by
      have hf := (H.out.file _ (get_mem HX.out.1)).2
      rw [show (p, x).2.v = x.v from rfl, HX.out.2.2.1] at hf
      rcases hf.forms with ⟨h1, -⟩ | ⟨g, cap, cur, h1, -⟩
      · simp only [Value.slice.injEq] at h1
        have := HX.out.2.2.2
        omega
      · simp only [Value.slice.injEq] at h1; exact ⟨g, h1.1⟩
    subst hxa
    have HI0 := Lib.hid (show FlipI w w s mp fp d S p x g xc k0 m es 0 from ⟨es, x, by rw [show ({ d with fs := put p ⟨flipl x.f.b k0 m 0, x.f.sure⟩ d.fs } : DS) = d by show ({ d with fs := put p x.f d.fs } : DS) = d; rw [put_same (by rw [H.out.fs]; exact H.out.up.mapv _) HX.out.2.1]]; exact H.out, HX.out.1, rfl, rfl, HX.out.2.2.1, trivial, HS.out.1, Chg.refl _ _⟩)
    go_wp2_with fail
    go_loopw [11] (fun v11 wr => ∃ j : Nat, j ≤ 4 ∧ v11 = .int .i64 ((k0 + j : Nat) : Int) ∧ Hid (FlipI w wr s mp fp d S p x g xc k0 m es j)) (fun v11 _ => (k0 + 4 - intOf v11).toNat)
    case atStart => exact ⟨0, by omega, rfl, HI0⟩
    case round =>
      obtain ⟨j, hj, rfl, HI⟩ := hrel
      obtain ⟨es', x', hr, hx', hxq, hxf, hxv, -, hfo, hc⟩ := HI.out
      have hfile := hr.file _ (get_mem hx')
      have d0 := hfile.1.cell (i := 0) (v := x'.v) rfl
      rw [show (p, x').2.v = x'.v from rfl, show (p, x').2.q = x'.q from rfl, hxq, hxv, HX.out.2.2.2] at d0
      have HW := Lib.hid (And.intro hr (And.intro hx' (And.intro hxq (And.intro hxf (And.intro hxv (And.intro hfo hc))))))
      clear hr hx' hxq hxf hxv hfo hc
      have e0 : IntKind.i64.wrap (((k0 + j : Nat) : Int) - (k0 : Int)) = (j : Int) := by rw [IntKind.wrap_i64]; omega
      by_cases hlt : j < 4 ∧ k0 + j < L
      · obtain ⟨hj4, hjL⟩ := hlt
        have hjL' : ((k0 + j : Nat) : Int) < (L : Int) := by omega
        have hj4' : (j : Int) < 4 := by omega
        have hlen : (flipl x.f.b k0 m j).length = L := by rw [flipl_length]; exact HX.out.2.2.2
        obtain ⟨y, hy⟩ : ∃ y, (flipl x.f.b k0 m j)[k0 + j]? = some y := ⟨_, List.getElem?_eq_getElem (by omega)⟩
        have hO : Own wr 0 5 (.slice (some ⟨g, 0, none⟩) x.f.b.length xc) (bvs (flipl x.f.b k0 m j)) := by
          have h1 := hfile.2
          rw [show (p, x').2.v = x'.v from rfl, show (p, x').2.f = x'.f from rfl, HW.out.2.2.2.2.1, HW.out.2.2.2.1] at h1
          exact h1
        obtain ⟨bb, oo, e1, d1⟩ := (Own.cells hO).at (j := k0 + j) (u := bv y) (by show ((flipl x.f.b k0 m j).map bv)[k0 + j]? = _; rw [List.getElem?_map, hy]; rfl)
        cases e1
        obtain ⟨cur, hrow⟩ := hO.row (b := g) rfl
        have u1 := hrow.unfrozen (k0 + j)
        rw [Nat.zero_add] at d1
        have d1 : wr.cell? ⟨g, k0 + j, none⟩ = some (.int .u8 (y.toNat : Int)) := d1
        have HY := Lib.hid (And.intro hy (And.intro hlen hO))
        have hS : (fun w' : World => w'.cell? ⟨x.q, 0, none⟩ = some (.slice (some ⟨g, 0, none⟩) L xc) ∧ w'.cell? ⟨g, k0 + j, none⟩ = some (.int .u8 (y.toNat : Int))) wr.drew := ⟨d0, d1⟩
        have e2 : IntKind.i64.wrap (8 * (j : Int)) = 8 * (j : Int) := by rw [IntKind.wrap_i64]; omega
        have e3 : ((k0 : Int) + (j : Int)).toNat = k0 + j := by omega
        have b0 : 0 ≤ (k0 : Int) + (j : Int) := by omega
        have b1 : 0 ≤ 8 * (j : Int) := by omega
        have b2 : 8 * (j : Int) ≤ 32 := by omega
        obtain ⟨M, hM⟩ : ∃ M, m / 2 ^ (8 * j) = M := ⟨_, rfl⟩
        have e4 : (m : Int) / 2 ^ (8 * (j : Int)).toNat = (M : Int) := by
          rw [show (8 * (j : Int)).toNat = 8 * j by omega, ← hM]; norm_cast
        obtain ⟨B, hB⟩ : ∃ B, M % 256 = B := ⟨_, rfl⟩
        have e5 : IntKind.u8.wrap (M : Int) = (B : Int) := by rw [IntKind.wrap_u8, ← hB]; norm_cast
        have e6 : (M : Int) % 256 = (B : Int) := by rw [← hB]; norm_cast
        have hB8 : (B : Int) < 256 := by omega
        have HF := Lib.hid (fby_bits y m j B (by rw [hM, hB]))
        replace e0 : IntKind.i64.wrap ((k0 : Int) + (j : Int) - (k0 : Int)) = (j : Int) := by rw [IntKind.wrap_i64]; omega
        clear hM hB
        clear hy hlen hO hfile hrow
        go_wp2_with fail
        refine wp_cut [54, 55, 56, 57, 58, 59, 60, 61, 62, 63, 64, 65, 66, 67, 68, 69] (fun w8 : World => w8 = wr.drew.setCell ⟨g, k0 + j, none⟩ (bv (fby y m j))) ?_ ?_
        · refine wp_region_U (fun w' : World => w'.cell? ⟨x.q, 0, none⟩ = some (.slice (some ⟨g, 0, none⟩) L xc) ∧ w'.cell? ⟨g, k0 + j, none⟩ = some (.int .u8 (y.toNat : Int))) 16 (by kernel_rfl) ?_
          refine wpU_pureH (i := 0) (j := 54) (v := ?_) rfl rfl (by kernel_rfl) (by kernel_rfl) (by kernel_rfl) (by decide) (fun _ _ _ h => h) (fun _ => hS) (Or.inl ⟨by kernel_rfl, fun _ _ => ?_⟩) ?_
          rotate_left
          · go_simp
            try with_reducible rfl
          refine wpU_pureH (i := 1) (j := 55) (v := ?_) rfl rfl (by kernel_rfl) (by kernel_rfl) (by kernel_rfl) (by decide) (fun _ _ _ h => h) (fun _ => hS) (Or.inl ⟨by kernel_rfl, fun _ _ => ?_⟩) ?_
          rotate_left
          · go_simp
            try with_reducible rfl
          refine wpU_pureH (i := 2) (j := 56) (v := ?_) rfl rfl (by kernel_rfl) (by kernel_rfl) (by kernel_rfl) (by decide) (fun _ _ _ h => h) (fun _ => hS) (Or.inl ⟨by kernel_rfl, fun _ _ => ?_⟩) ?_
          rotate_left
          · go_simp
            try with_reducible rfl
          refine wpU_loadH (i := 3) (j := 57) (v := ?_) rfl rfl (by kernel_rfl) (by kernel_rfl) (by kernel_rfl) (by decide) (by kernel_rfl) (by kernel_rfl) (fun _ _ _ h => h) hS (Or.inl ⟨by kernel_rfl, fun wl hl => ?_⟩) ?_
          rotate_left
          · obtain ⟨l0, l1⟩ := hl
            go_simp
            try with_reducible rfl
          refine wpU_pureH (i := 4) (j := 58) (v := ?_) rfl rfl (by kernel_rfl) (by kernel_rfl) (by kernel_rfl) (by decide) (fun _ _ _ h => h) (fun _ => hS) (Or.inl ⟨by kernel_rfl, fun _ _ => ?_⟩) ?_
          rotate_left
          · go_simp
            try with_reducible rfl
          refine wpU_pureH (i := 5) (j := 59) (v := ?_) rfl rfl (by kernel_rfl) (by kernel_rfl) (by kernel_rfl) (by decide) (fun _ _ _ h => h) (fun _ => hS) (Or.inl ⟨by kernel_rfl, fun _ _ => ?_⟩) ?_
          rotate_left
          · go_simp
            try with_reducible rfl
          refine wpU_loadH (i := 6) (j := 60) (v := ?_) rfl rfl (by kernel_rfl) (by kernel_rfl) (by kernel_rfl) (by decide) (by kernel_rfl) (by kernel_rfl) (fun _ _ _ h => h) hS (Or.inl ⟨by kernel_rfl, fun wl hl => ?_⟩) ?_
          rotate_left
          · obtain ⟨l0, l1⟩ := hl
            go_simp
            try with_reducible rfl
          refine wpU_pureH (i := 7) (j := 61) (v := ?_) rfl rfl (by kernel_rfl) (by kernel_rfl) (by kernel_rfl) (by decide) (fun _ _ _ h => h) (fun _ => hS) (Or.inl ⟨by kernel_rfl, fun _ _ => ?_⟩) ?_
          rotate_left
          · go_simp
            try with_reducible rfl
          refine wpU_pureH (i := 8) (j := 62) (v := ?_) rfl rfl (by kernel_rfl) (by kernel_rfl) (by kernel_rfl) (by decide) (fun _ _ _ h => h) (fun _ => hS) (Or.inl ⟨by kernel_rfl, fun _ _ => ?_⟩) ?_
          rotate_left
          · go_simp
            try with_reducible rfl
          refine wpU_pureH (i := 9) (j := 63) (v := ?_) rfl rfl (by kernel_rfl) (by kernel_rfl) (by kernel_rfl) (by decide) (fun _ _ _ h => h) (fun _ => hS) (Or.inl ⟨by kernel_rfl, fun _ _ => ?_⟩) ?_
          rotate_left
          · go_simp
            try with_reducible rfl
          refine wpU_pureH (i := 10) (j := 64) (v := ?_) rfl rfl (by kernel_rfl) (by kernel_rfl) (by kernel_rfl) (by decide) (fun _ _ _ h => h) (fun _ => hS) (Or.inl ⟨by kernel_rfl, fun _ _ => ?_⟩) ?_
          rotate_left
          · go_simp
            try with_reducible rfl
          refine wpU_pureH (i := 11) (j := 65) (v := ?_) rfl rfl (by kernel_rfl) (by kernel_rfl) (by kernel_rfl) (by decide) (fun _ _ _ h => h) (fun _ => hS) (Or.inl ⟨by kernel_rfl, fun _ _ => ?_⟩) ?_
          rotate_left
          · go_simp
            try with_reducible rfl
          refine wpU_pureH (i := 12) (j := 66) (v := ?_) rfl rfl (by kernel_rfl) (by kernel_rfl) (by kernel_rfl) (by decide) (fun _ _ _ h => h) (fun _ => hS) (Or.inl ⟨by kernel_rfl, fun _ _ => ?_⟩) ?_
          rotate_left
          · go_simp
            try with_reducible rfl
          refine wpU_pureH (i := 13) (j := 67) (v := ?_) rfl rfl (by kernel_rfl) (by kernel_rfl) (by kernel_rfl) (by decide) (fun _ _ _ h => h) (fun _ => hS) (Or.inl ⟨by kernel_rfl, fun _ _ => ?_⟩) ?_
          rotate_left
          · go_simp
            try with_reducible rfl
          refine wpU_pureH (i := 14) (j := 68) (v := ?_) rfl rfl (by kernel_rfl) (by kernel_rfl) (by kernel_rfl) (by decide) (fun _ _ _ h => h) (fun _ => hS) (Or.inl ⟨by kernel_rfl, fun _ _ => ?_⟩) ?_
          rotate_left
          · go_simp
            try with_reducible rfl
          refine wpU_pureH (i := 15) (j := 69) (v := ?_) rfl rfl (by kernel_rfl) (by kernel_rfl) (by kernel_rfl) (by decide) (fun _ _ _ h => h) (fun _ => hS) (Or.inl ⟨by kernel_rfl, fun _ _ => ?_⟩) ?_
          rotate_left
          · go_simp
            try with_reducible rfl
          refine wpU_all [16] (by kernel_rfl) (by simp) ?_
          refine ReadyU.cons rfl (fun K hK => ?_) ReadyU.nil
          simp only [List.set_cons_zero, List.set_cons_succ]
          go_simp
          refine hK.out _ _ (fun h => Bool.noConfusion (show true = false from h)) ?_
          clear hK K
          refine wpU_done (by kernel_rfl) ?_ _
          exact cut_end (by rw [HF.out]; rfl) (by kernel_rfl)
        · rintro us w8 rfl
          have hup : Up d.fs := by rw [H.out.fs]; exact H.out.up.mapv _
          have hgS : S g := HW.out.2.2.2.2.2.1 g (.inr (.inr ⟨_, get_mem HW.out.2.1, .inr (by rw [show (p, x').2.v = x'.v from rfl, HW.out.2.2.2.2.1]; rfl)⟩))
          have hd1 : Chg (fun _ => False) wr wr.drew := Chg.of_ext (Ext.of_drawn wr 1) _
          obtain ⟨hp1, hp2⟩ := (HW.out.1.chg hd1 (fun _ _ h => h)).poke HW.out.2.1 HW.out.2.2.2.2.1 (k0 + j) (fby y m j)
          have hfl : x'.f.b.set (k0 + j) (fby y m j) = flipl x.f.b k0 m (j + 1) := by
            rw [HW.out.2.2.2.1]; exact (flipl_succ _ _ _ _ HY.out.1).symm
          have hsu : x'.f.sure = x.f.sure := by rw [HW.out.2.2.2.1]
          rw [hfl, hsu] at hp1
          rw [show put p ⟨flipl x.f.b k0 m (j + 1), x.f.sure⟩ ({ d with fs := put p ⟨flipl x.f.b k0 m j, x.f.sure⟩ d.fs } : DS).fs = put p ⟨flipl x.f.b k0 m (j + 1), x.f.sure⟩ d.fs from put_put hup p _ _] at hp1
          have HN := Lib.hid (show FlipI w (wr.drew.setCell ⟨g, k0 + j, none⟩ (bv (fby y m j))) s mp fp d S p x g xc k0 m es (j + 1) from
            ⟨_, ⟨x'.q, x'.v, ⟨flipl x.f.b k0 m (j + 1), x.f.sure⟩⟩, hp1, by rw [get_put HW.out.1.up, if_pos rfl], HW.out.2.2.1, rfl, HW.out.2.2.2.2.1, trivial, fun b hb => by
              rcases hb with hb | hb | ⟨e, he, hb⟩
              · exact HW.out.2.2.2.2.2.1 b (.inl hb)
              · exact HW.out.2.2.2.2.2.1 b (.inr (.inl hb))
              · rcases mem_put.1 he with rfl | ⟨he, -⟩
                · exact HW.out.2.2.2.2.2.1 b (.inr (.inr ⟨_, get_mem HW.out.2.1, hb⟩))
                · exact HW.out.2.2.2.2.2.1 b (.inr (.inr ⟨e, he, hb⟩)),
             HW.out.2.2.2.2.2.2.then ((hd1.mono (fun _ _ h => h.elim)).trans (hp2.mono fun b _ hb => by rw [hb]; exact .inl hgS))⟩)
          clear hp1 hp2 hd1 hfl hsu hup hgS hS d1 d0
          simp only [setAll, List.foldl_cons, List.foldl_nil, List.set_cons_zero, List.set_cons_succ]
          go_wp2_with fail
          exact ⟨⟨j + 1, by omega, by go_num, HN⟩, by simp [intOf]; omega⟩
      · have hfin : ({ d with fs := put p ⟨flipl x.f.b k0 m j, x.f.sure⟩ d.fs } : DS) = dflip p (k0 : Int) m d ∧ flipok p (k0 : Int) d.fs = true := by
          have h4 : flipl x.f.b k0 m 4 = flipl x.f.b k0 m j := by
            by_cases h : j = 4
            · rw [h]
            · have := flipl_stop x.f.b k0 m (k := j) (by have := HX.out.2.2.2; omega) (4 - j)
              rw [show j + (4 - j) = 4 by omega] at this
              exact this
          have hin : (0 : Int) ≤ (k0 : Int) ∧ (k0 : Int) < ((x.f.b.length : Nat) : Int) := by have := HX.out.2.2.2; omega
          unfold dflip flipok
          rw [HX.out.2.1]
          exact ⟨by show _ = if _ then _ else _; rw [if_pos hin, Int.toNat_natCast, h4], decide_eq_true hin⟩
        have HE := Lib.hid (show SimAt wr s fp (dflip p (k0 : Int) m d) S ∧ Chg S w wr ∧ flipok p (k0 : Int) d.fs = true from
          ⟨⟨mp, es', by rw [← hfin.1]; exact HW.out.1, HW.out.2.2.2.2.2.1, fun b hb => Nat.lt_of_lt_of_le (HS.out.2.1 b hb) HW.out.2.2.2.2.2.2.size, HS.out.2.2⟩, HW.out.2.2.2.2.2.2, hfin.2⟩)
        clear hfin hfile
        replace e0 : IntKind.i64.wrap ((k0 : Int) + (j : Int) - (k0 : Int)) = (j : Int) := by rw [IntKind.wrap_i64]; omega
        by_cases hjL : k0 + j < L
        · obtain rfl : j = 4 := by omega
          have hjL' : ((k0 : Int) + ((4 : Nat) : Int)) < (L : Int) := by omega
          clear hlt
          go_wp2_with fail
          go_ret
          rw [HE.out.2.2]
          exact ⟨rfl, HE.out.1, HE.out.2.1⟩
        · have hjL' : ¬ ((k0 : Int) + (j : Int)) < (L : Int) := by omega
          clear hlt
          go_wp2_with fail
          go_ret
          rw [HE.out.2.2]
          exact ⟨rfl, HE.out.1, HE.out.2.1⟩
end Go.Proofs.Ythkbbcdnmdjhdaa
/-! XFlB: Flip of the reference's disk. -/
namespace Go.Proofs.Ythkbbcdnmdjhdaa
open Go.RowKit Dk
set_option maxRecDepth 100000
set_option maxHeartbeats 4000000
attribute [local go_sem] min_int2 max_int2 bstr_toList bstr_size

/-- Behind j bytes of the copy. -/
def RFlipI (w3 wr : World) (gg c4 k0 m : Nat) (b : List UInt8) (j : Nat) : Prop :=
  Own wr w3.heap.size 5 (.slice (some ⟨gg, 0, none⟩) b.length c4) (bvs (flipl b k0 m j)) ∧ Chg (fun _ => False) w3 wr
end Go.Proofs.Ythkbbcdnmdjhdaa
/-! XFlC: What befalls both disks, by parts of memory. -/
namespace Go.Proofs.Ythkbbcdnmdjhdaa
open Go.RowKit Dk
set_option maxRecDepth 100000
set_option maxHeartbeats 4000000

section
variable {w0 w w' : World} {Y Z : Thing} {s r : Nat} {fp : Option Nat} {z : Option FS} {d : DS}
theorem Lab.flip' (hL : Lab w0 w ((simT s fp d).star Y)) (p : Path) (a : Int) (hA : -9223372036854775808 ≤ a ∧ a ≤ 9223372036854775807) (m : Nat) (hp : p.length ≤ maxLen) (ht : tot d.fs ≤ 1099511627776) :
    Calls Try.prog 27 #[.pointer (some ⟨s, 0, none⟩), .string (bstr p), .int .i64 a, .int .u32 (m : Int)] w fun e w' => e = .returned (.bool (flipok p a d.fs)) ∧ Lab w0 w' ((simT s fp (dflip p a m d)).star Y) :=
  hL.simturn fun S hS => flip_any s fp d S p a hA m w hS hp ht
/-- An operation of the reference that may make memory of its own. -/
theorem Lab.refgrow {P : Program} {f : FuncId} {args : Array Value} {d' : DS} {e0 : Ending} (hL : Lab w0 w ((refT r fp d).star Y)) (h : ∀ S, RefAt w r fp d S → Calls P f args w fun e w' => e = e0 ∧ RefAt w' r fp d' (Grow S w w') ∧ Chg S w w') :
    Calls P f args w fun e w' => e = e0 ∧ Lab w0 w' ((refT r fp d').star Y) := by
  refine (Lab.call (Q := fun X' e => e = e0 ∧ X' = refT r fp d') hL ?_).mono ?_
  · intro T hT
    exact (h T hT).mono fun e w' ⟨k1, k2, k3⟩ => ⟨_, ⟨k1, rfl⟩, k3, Grow T w w', fun b hb => hb, k2⟩
  · rintro e w' ⟨X', ⟨h1, rfl⟩, h2⟩
    exact ⟨h1, h2⟩
theorem RefAt.madeown {S : Nat → Prop} {d' : DS} (i : Nat) (u : Value) (h : RefAt w r fp d S)
    (k : ∀ lv es, RRaw w r fp lv es d → ∃ lv' es', RRaw (w.setCell ⟨r, i, none⟩ u) r fp lv' es' d' ∧ ∀ b, RFoot r lv' es' b → RFoot r lv es b) : Made (refT r fp d') S w (w.setCell ⟨r, i, none⟩ u) := by
  obtain ⟨lv, es, h1, h2, h3, h4⟩ := h
  obtain ⟨lv', es', k1, k2⟩ := k lv es h1
  have hc : Chg S w (w.setCell ⟨r, i, none⟩ u) := (Chg.refl S w).at r i (.inl (h2 r (.inl rfl))) u
  exact ⟨hc, S, fun b hb => .inl hb, lv', es', k1, fun b hb => h2 b (k2 b hb), fun b hb => Nat.lt_of_lt_of_le (h3 b hb) hc.size, h4⟩
theorem Lab.roff (hL : Lab w0 w ((refT r fp d).star Y)) (b : Bool) : Lab w0 (w.setCell ⟨r, 3, none⟩ (.bool b)) ((refT r fp { d with off := b }).star Y) :=
  hL.made fun _ hS => RefAt.madeown 3 (.bool b) hS fun lv es h => ⟨lv, es, h.own 3 (.bool b) (h.row.set 3 (.bool b)) rfl h.nb h.nm, fun _ h => h⟩
theorem Lab.rbad (hL : Lab w0 w ((refT r fp d).star Y)) (n : Nat) (hn : n ≤ 9223372036854775807) : Lab w0 (w.setCell ⟨r, 4, none⟩ (.int .i64 (n : Int))) ((refT r fp { d with bad := n }).star Y) :=
  hL.made fun _ hS => RefAt.madeown 4 (.int .i64 (n : Int)) hS fun lv es h => ⟨lv, es, h.own 4 (.int .i64 (n : Int)) (d' := { d with bad := n }) (h.row.set 4 (.int .i64 (n : Int))) rfl hn h.nm, fun _ h => h⟩
theorem Lab.rwipe (hL : Lab w0 w ((refT r fp d).star Y)) : Lab w0 (w.setCell ⟨r, 0, none⟩ (.slice none 0 0)) ((refT r fp { d with fs := [] }).star Y) :=
  hL.made fun _ hS => RefAt.madeown 0 (.slice none 0 0) hS fun lv es h => ⟨.slice none 0 0, [], ⟨h.row.set 0 (.slice none 0 0), OwnK.nil _ _ _ _, List.Pairwise.nil, fun e he => absurd he List.not_mem_nil, rfl, h.nb, h.nm, fun e he => absurd he List.not_mem_nil⟩, fun b hb => by
    rcases hb with hb | hb | ⟨e, he, _⟩
    · exact .inl hb
    · cases hb
    · cases he⟩
/-- The reference's cells. -/
theorem Lab.rraw (h : Lab w0 w (refT r fp d)) : ∃ lv es, RRaw w r fp lv es d := by obtain ⟨T, lv, es, h, _⟩ := h.get; exact ⟨lv, es, h⟩
end
end Go.Proofs.Ythkbbcdnmdjhdaa
/-! XFlD: One deed on both disks: what befalls them. -/
namespace Go.Proofs.Ythkbbcdnmdjhdaa
open Go.RowKit Dk
set_option maxRecDepth 100000
set_option maxHeartbeats 4000000
attribute [local go_sem] min_int2 max_int2 bstr_toList bstr_size

/-- What a deed (beyond 6) makes of the fuse and the disk. -/
def stepC (z : FS) (d : DS) (x : Deed) : FS × DS :=
  if x.act = 7 then (z, { d with off := bits .and .i64 x.n 1 == 1 }) else if x.act = 8 then (z, { d with bad := x.n.toNat }) else if x.act = 9 then (z, { d with fs := [] })
  else if x.act = 10 then (z, dflip x.a x.n ((4096 + x.b.length % 4294967296) % 4294967296) d) else if x.act = 11 then (z, d.crash x.n) else if x.act = 12 then (⟨x.n, 0, false⟩, d) else (z, d)
end Go.Proofs.Ythkbbcdnmdjhdaa
/-! XFlE: Same: both disks hold the same. -/
namespace Go.Proofs.Ythkbbcdnmdjhdaa
open Go.RowKit Dk
set_option maxRecDepth 100000
set_option maxHeartbeats 4000000
attribute [local go_sem] min_int2 max_int2 bstr_toList bstr_size

end Go.Proofs.Ythkbbcdnmdjhdaa
