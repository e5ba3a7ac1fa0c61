/-
  The tenth layer's statements: awake.
-/
import Derived.Test.YtnphkddhckcpmaaDkI
import Derived.Lib.SlBytesConst
namespace Go.Proofs.Ytnphkddhckcpmaa
open Go.RowKit Dk
set_option maxRecDepth 100000
set_option maxHeartbeats 4000000
attribute [local go_sem] min_int2 max_int2 bstr_toList

def dk0 (n : Nat) : DS := ⟨n, false, 0, []⟩
def zz (n : Nat) : Option FS := some ⟨0, n, false⟩
theorem aw1 : writes (zz 0) (dk0 100) [97] [120, 121] = (0, zz 1, ⟨100, false, 0, [([97], ⟨[120, 121], false⟩)]⟩) := by kernel_rfl
theorem aw2 : syncs (zz 1) ⟨100, false, 0, [([97], ⟨[120, 121], false⟩)]⟩ [97] = (0, zz 2, ⟨100, false, 0, [([97], ⟨[120, 121], true⟩)]⟩) := by kernel_rfl
theorem aw3 : renames (zz 2) ⟨100, false, 0, [([97], ⟨[120, 121], true⟩)]⟩ [97] [98] = (0, zz 3, ⟨100, false, 0, [([98], ⟨[120, 121], true⟩)]⟩) := by kernel_rfl
theorem aw4 : DS.crash 0 ⟨100, false, 0, [([98], ⟨[120, 121], true⟩)]⟩ = ⟨100, false, 0, [([98], ⟨[120, 121], true⟩)]⟩ := by kernel_rfl
theorem aw5 : opens (zz 3) ⟨100, false, 0, [([98], ⟨[120, 121], true⟩)]⟩ [98] [] = 0 ∧ readb (zz 3) ⟨100, false, 0, [([98], ⟨[120, 121], true⟩)]⟩ [98] = [120, 121] ∧ begins (zz 3) ⟨100, false, 0, [([98], ⟨[120, 121], true⟩)]⟩ [[98]] = (0, zz 4, ⟨100, false, 0, [([98], ⟨[120, 121], true⟩)]⟩) := ⟨by kernel_rfl, by kernel_rfl, by kernel_rfl⟩
theorem str_conv {w : World} {v : Value} {l : List UInt8} (h : Bytes w v l) : ∀ W, Ext w W → (convert 30 9 v).run Try.prog W = .ok (.string (bstr l)) W :=
  fun _ hW => run_tostr Try.underlying30 Try.underlying5 Try.underlying9 (Cells.ext h hW)
theorem Chg.after2 {T : Nat → Prop} {w w' w'' : World} (h : Ext w w') (k : Chg T w' w'') (hT : ∀ b, T b → w.heap.size ≤ b) : Ext w w'' :=
  ⟨k.os.trans h.os, k.tape.trans h.tape, k.output.trans h.output, Nat.le_trans h.size k.size, fun b hb => (k.block b (Nat.lt_of_lt_of_le hb h.size) (fun ht => by have := hT b ht; omega)).trans (h.block b hb)⟩
/-- A block of bytes of a constant. -/
theorem const_bytes (w : World) (l : List UInt8) (C : Array Value) (hC : C.toList = bvs l) (fz : Nat × Nat) : Bytes (w.alloc (.cells C 5 fz)) (.slice (some ⟨w.heap.size, 0, none⟩) l.length l.length) l := by
  refine ⟨_, l.length, by rw [bvs_len], by rw [bvs_len]; exact Nat.le_refl _, (fun h => by cases h), fun j u hu => ⟨_, rfl, ?_⟩⟩
  rw [Addr.add_lit, Nat.zero_add]
  have hb : (w.alloc (.cells C 5 fz)).heap[w.heap.size]? = some (.cells C 5 fz) := by unfold World.alloc; simp
  have hj : C[j]? = some u := by rw [← Array.getElem?_toList, hC]; exact hu
  unfold World.cell?
  rw [hb]
  exact hj
theorem dawake_any (w : World) : Calls Try.prog 12 #[] w fun e w' => e = .returned (.bool true) ∧ Ext w w' := by
  go_enter Try.func12, Try.ntmps12
  go_wp2_with fail
  refine (newfuse_any _).mono ?_; rintro e w1 ⟨rfl, hz, x1, hsz⟩
  obtain ⟨f, hf⟩ : ∃ f, w.heap.size = f := ⟨_, rfl⟩
  rw [hf] at hz ⊢
  have HZ := Lib.hid hz
  have HF := Lib.hid (And.intro hf hsz)
  have X1 := Lib.hid x1
  clear hz x1 hf hsz
  go_wp2_with fail
  refine (new_any 100 (some f) _ (fun b hb => HZ.out.lt b hb)).mono ?_; rintro e w2 ⟨rfl, hS, x2⟩
  have hbig : ∀ b, Grow (fun _ => False) w1 w2 b → w.heap.size ≤ b := fun b hb => hb.elim False.elim fun h => Nat.le_trans X1.out.size h.1
  obtain ⟨s, hs⟩ : ∃ s, w1.heap.size + 1 = s := ⟨_, rfl⟩
  rw [hs] at hS ⊢
  obtain ⟨S, hSS⟩ : ∃ S, Grow (fun _ => False) w1 w2 = S := ⟨_, rfl⟩
  rw [hSS] at hS hbig
  have HS := Lib.hid (show SimAt w2 s (some f) (dk0 100) S from hS)
  have HB := Lib.hid hbig
  have HZ2 := Lib.hid (HZ.out.chg (Chg.of_ext x2 (fun _ => False)) (fun _ _ h => h))
  have X2 := Lib.hid (Ext.trans X1.out x2)
  clear hS hbig hs hSS x2 HZ
  have cs := fun (w : World) (C : Array Value) (n c : Nat) => Lib.run_convert_bytes_const (P := Try.prog) w 30 5 C n c Try.underlying30 Try.underlying5
  have b0 := const_bytes w2 [120, 121] #[.int .u8 120, .int .u8 121] rfl (2, 3)
  have x3 : Ext w2 (w2.alloc (.cells #[.int .u8 120, .int .u8 121] 5 (2, 3))) := (Ext.refl w2).alloc (Nat.le_refl _) _
  have B0 := Lib.hid (And.intro b0 (And.intro (HS.out.ext x3) (And.intro (HZ2.out.chg (Chg.of_ext x3 (fun _ => False)) (fun _ _ h => h)) (Ext.trans X2.out x3))))
  clear b0 x3
  go_wp2_with fail
  clear cs
  refine (write_any s (some f) (zz 0) (dk0 100) S [97] _ [120, 121] _ B0.out.2.1 B0.out.2.2.1 (by decide) (by decide) B0.out.1 (by decide) (by decide) (by decide)).mono ?_
  rw [aw1]; rintro e w3 ⟨rfl, hz, hS, hg⟩
  have hB3 : ∀ b, Grow S (w2.alloc (.cells #[.int .u8 120, .int .u8 121] 5 (2, 3))) w3 b → w.heap.size ≤ b := fun b hb => hb.elim (HB.out b) fun h => Nat.le_trans B0.out.2.2.2.size h.1
  have HX := Lib.hid (Chg.after2 B0.out.2.2.2 hg (fun b hb => hb.elim (HB.out b) fun h => by rw [← HF.out.1] at h; cases h; exact Nat.le_refl _))
  obtain ⟨S3, hSS⟩ : ∃ S3, Grow S (w2.alloc (.cells #[.int .u8 120, .int .u8 121] 5 (2, 3))) w3 = S3 := ⟨_, rfl⟩
  rw [hSS] at hS hB3
  have HS3 := Lib.hid hS
  have HZ3 := Lib.hid hz
  have HB3 := Lib.hid hB3
  clear hB3 hS hz hg hSS B0
  go_wp2_with fail
  refine (sync_any s (some f) (zz 1) _ S3 [97] _ HS3.out HZ3.out (by decide) (by decide)).mono ?_
  rw [aw2]; rintro e w4 ⟨rfl, hz, hS, hg⟩
  have hB4 : ∀ b, Grow S3 w3 w4 b → w.heap.size ≤ b := fun b hb => hb.elim (HB3.out b) fun h => Nat.le_trans HX.out.size h.1
  have HX4 := Lib.hid (Chg.after2 HX.out hg (fun b hb => hb.elim (HB3.out b) fun h => by rw [← HF.out.1] at h; cases h; exact Nat.le_refl _))
  obtain ⟨S4, hSS⟩ : ∃ S4, Grow S3 w3 w4 = S4 := ⟨_, rfl⟩
  rw [hSS] at hS hB4
  have HS4 := Lib.hid hS
  have HZ4 := Lib.hid hz
  have HB4 := Lib.hid hB4
  clear hB4 hS hz hg hSS HX HS3 HZ3
  go_wp2_with fail
  refine (rename_any s (some f) (zz 2) _ S4 [97] [98] _ HS4.out HZ4.out (by decide) (by decide) (by decide) (by decide)).mono ?_
  rw [aw3]; rintro e w5 ⟨rfl, hz, hS, hg⟩
  have hB5 : ∀ b, Grow S4 w4 w5 b → w.heap.size ≤ b := fun b hb => hb.elim (HB4.out b) fun h => Nat.le_trans HX4.out.size h.1
  have HX5 := Lib.hid (Chg.after2 HX4.out hg (fun b hb => hb.elim (HB4.out b) fun h => by rw [← HF.out.1] at h; cases h; exact Nat.le_refl _))
  obtain ⟨S5, hSS⟩ : ∃ S5, Grow S4 w4 w5 = S5 := ⟨_, rfl⟩
  rw [hSS] at hS hB5
  have HS5 := Lib.hid hS
  have HZ5 := Lib.hid hz
  have HB5 := Lib.hid hB5
  clear hB5 hS hz hg hSS HX4 HS4 HZ4
  go_wp2_with fail
  refine (crash_any s (some f) _ S5 0 (by decide) _ HS5.out (by decide)).mono ?_
  rw [aw4]; rintro e w6 ⟨rfl, hS, hg⟩
  have hnf : ∀ b, some f = some b → ¬ S5 b := by obtain ⟨_, _, _, _, _, h4⟩ := HS5.out; exact h4
  have HZ6 := Lib.hid (HZ5.out.chg hg hnf)
  have HS6 := Lib.hid hS
  have HX6 := Lib.hid (Chg.after2 HX5.out hg (HB5.out))
  clear hS hg hnf HX5 HS5 HZ5
  go_wp2_with fail
  refine (read_any s (some f) (zz 3) _ S5 [98] _ HS6.out HZ6.out (by decide) (by decide) (by decide)).mono ?_
  rintro e w7 ⟨u, he, hU, hz, hS, hg⟩
  rw [aw5.1] at he
  subst he
  rw [aw5.2.1] at hU
  rw [aw5.2.2] at hz hS
  obtain ⟨ua, uc, rfl⟩ := Own.slice' hU
  have y1 : (convert 30 9 (.slice ua 2 uc)).run Try.prog w7 = .ok (.string (bstr [120, 121])) w7 := str_conv hU.cells w7 (Ext.refl _)
  have HX7 := Lib.hid (Chg.after2 HX6.out hg (fun b hb => hb.elim (HB5.out b) fun h => by rw [← HF.out.1] at h; cases h; exact Nat.le_refl _))
  have HZ7 := Lib.hid hz
  have HS7 := Lib.hid hS
  clear hU hz hS hg HX6 HS6 HZ6
  go_wp2_with fail
  refine (ops_any f ⟨0, 4, false⟩ _ HZ7.out).mono ?_; rintro e w8 ⟨rfl, rfl⟩
  go_wp2_with fail
  obtain ⟨m, es, hR, -, -, -⟩ := HS7.out
  refine (used_any s m (some f) es _ _ hR (by decide)).mono ?_; rintro e w9 ⟨rfl, x9⟩
  have HX9 := Lib.hid (Ext.trans HX7.out x9)
  clear hR x9
  go_wp2_with fail
  go_ret
  exact ⟨rfl, HX9.out⟩
end Go.Proofs.Ytnphkddhckcpmaa
