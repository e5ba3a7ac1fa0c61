/-
  DiskKnown: the walk.
-/
import Derived.Test.YtnphkddhckcpmaaDkZ
import Derived.Stop.Asserts
namespace Go.Proofs.Ytnphkddhckcpmaa
open Go.RowKit Dk
set_option maxRecDepth 100000
set_option maxHeartbeats 4000000
attribute [local go_sem] min_int2 max_int2 bstr_toList

theorem known_any (w : World) : Calls Try.prog 8 #[] w fun e w' => e = .returned (.bool true) ∧ Ext w w' := by
  go_enter Try.func8, Try.ntmps8
  go_wp2_with fail
  refine (dawake_any _).mono ?_; rintro e w1 ⟨rfl, x1⟩
  have L1 := Lib.hid ((Lab.start w).ext x1)
  clear x1
  go_wp2_with fail
  refine (L1.out.newfuse).mono ?_; rintro e w2 ⟨f, rfl, hL⟩
  have L2 := Lib.hid hL
  clear hL L1
  go_wp2_with fail
  refine (L2.out.newdisk 5).mono ?_; rintro e w3 ⟨s, rfl, hL⟩
  have L3 := Lib.hid (show Lab w w3 ((fuseT (some f) (zz 0)).star ((simT s (some f) (dk0 5)).star emp)) from hL)
  clear hL L2
  have b0 := Lib.hid (const_bytes w3 [120, 121, 122] #[.int .u8 120, .int .u8 121, .int .u8 122] rfl (3, 4))
  have M3 := L3
  clear L3
  have L3 := Lib.hid (M3.out.ext (show Ext w3 (w3.alloc (.cells #[.int .u8 120, .int .u8 121, .int .u8 122] 5 (3, 4))) from (Ext.refl w3).alloc (Nat.le_refl _) _))
  clear M3
  have cs := fun (w : World) (C : Array Value) (n c : Nat) => Lib.run_convert_bytes_const (P := Try.prog) w 30 5 C n c Try.underlying30 Try.underlying5
  go_wp2_with fail
  clear cs
  refine (L3.out.write [97] _ [120, 121, 122] (by decide) (by decide) b0.out (by decide) (by decide) (by decide)).mono ?_
  rw [show writes (zz 0) (dk0 5) [97] [120, 121, 122] = (0, some ⟨0, 1, false⟩, ⟨5, false, 0, [([97], ⟨[120, 121, 122], false⟩)]⟩) from by kernel_rfl]
  rintro e w4 ⟨rfl, hL⟩
  clear b0
  have L4 := Lib.hid (show Lab w w4 ((fuseT (some f) (some ⟨0, 1, false⟩)).star ((simT s (some f) ⟨5, false, 0, [([97], ⟨[120, 121, 122], false⟩)]⟩).star emp)) from hL)
  clear hL L3
  go_wp2_with fail
  refine (L4.out.rename [97] [98] (by decide) (by decide) (by decide) (by decide)).mono ?_
  rw [show renames (some ⟨0, 1, false⟩) ⟨5, false, 0, [([97], ⟨[120, 121, 122], false⟩)]⟩ [97] [98] = (0, some ⟨0, 2, false⟩, ⟨5, false, 0, [([98], ⟨[120, 121, 122], false⟩)]⟩) from by kernel_rfl]
  rintro e w5 ⟨rfl, hL⟩
  have L5 := Lib.hid (show Lab w w5 ((fuseT (some f) (some ⟨0, 2, false⟩)).star ((simT s (some f) ⟨5, false, 0, [([98], ⟨[120, 121, 122], false⟩)]⟩).star emp)) from hL)
  clear hL L4
  go_wp2_with fail
  refine (Lab.crash L5.out.swap 0 (by decide) (by decide)).mono ?_
  rw [show DS.crash 0 ⟨5, false, 0, [([98], ⟨[120, 121, 122], false⟩)]⟩ = ⟨5, false, 0, [([98], ⟨[], true⟩)]⟩ from by kernel_rfl]
  rintro e w6 ⟨rfl, hL⟩
  have L6 := Lib.hid (show Lab w w6 ((fuseT (some f) (some ⟨0, 2, false⟩)).star ((simT s (some f) ⟨5, false, 0, [([98], ⟨[], true⟩)]⟩).star emp)) from hL.swap)
  clear hL L5
  go_wp2_with fail
  refine (L6.out.read [98] (by decide) (by decide) (by decide)).mono ?_
  rw [show opens (some ⟨0, 2, false⟩) ⟨5, false, 0, [([98], ⟨[], true⟩)]⟩ [98] [] = 0 from by kernel_rfl]
  rw [show readb (some ⟨0, 2, false⟩) ⟨5, false, 0, [([98], ⟨[], true⟩)]⟩ [98] = [] from by kernel_rfl]
  rw [show begins (some ⟨0, 2, false⟩) ⟨5, false, 0, [([98], ⟨[], true⟩)]⟩ [[98]] = (0, some ⟨0, 3, false⟩, ⟨5, false, 0, [([98], ⟨[], true⟩)]⟩) from by kernel_rfl]
  rintro e w7 ⟨u, rfl, hL⟩
  obtain ⟨ua, uc, rfl⟩ : ∃ a c, u = .slice a 0 c := Own.slice' (ownT.own hL.left)
  have L7 := Lib.hid (show Lab w w7 ((fuseT (some f) (some ⟨0, 3, false⟩)).star ((simT s (some f) ⟨5, false, 0, [([98], ⟨[], true⟩)]⟩).star emp)) from hL.right)
  clear hL L6
  have b0 := Lib.hid (const_bytes w7 [49, 50, 51, 52, 53, 54] #[.int .u8 49, .int .u8 50, .int .u8 51, .int .u8 52, .int .u8 53, .int .u8 54] rfl (6, 7))
  have M7 := L7
  clear L7
  have L7 := Lib.hid (M7.out.ext (show Ext w7 (w7.alloc (.cells #[.int .u8 49, .int .u8 50, .int .u8 51, .int .u8 52, .int .u8 53, .int .u8 54] 5 (6, 7))) from (Ext.refl w7).alloc (Nat.le_refl _) _))
  clear M7
  have cs := fun (w : World) (C : Array Value) (n c : Nat) => Lib.run_convert_bytes_const (P := Try.prog) w 30 5 C n c Try.underlying30 Try.underlying5
  go_wp2_with fail
  clear cs
  refine (L7.out.write [99] _ [49, 50, 51, 52, 53, 54] (by decide) (by decide) b0.out (by decide) (by decide) (by decide)).mono ?_
  rw [show writes (some ⟨0, 3, false⟩) ⟨5, false, 0, [([98], ⟨[], true⟩)]⟩ [99] [49, 50, 51, 52, 53, 54] = (8, some ⟨0, 4, false⟩, ⟨5, false, 0, [([98], ⟨[], true⟩)]⟩) from by kernel_rfl]
  rintro e w8 ⟨rfl, hL⟩
  clear b0
  have L8 := Lib.hid (show Lab w w8 ((fuseT (some f) (some ⟨0, 4, false⟩)).star ((simT s (some f) ⟨5, false, 0, [([98], ⟨[], true⟩)]⟩).star emp)) from hL)
  clear hL L7
  go_wp2_with fail
  refine (L8.out.sync [122, 122] (by decide) (by decide)).mono ?_
  rw [show syncs (some ⟨0, 4, false⟩) ⟨5, false, 0, [([98], ⟨[], true⟩)]⟩ [122, 122] = (6, some ⟨0, 5, false⟩, ⟨5, false, 0, [([98], ⟨[], true⟩)]⟩) from by kernel_rfl]
  rintro e w9 ⟨rfl, hL⟩
  have L9 := Lib.hid (show Lab w w9 ((fuseT (some f) (some ⟨0, 5, false⟩)).star ((simT s (some f) ⟨5, false, 0, [([98], ⟨[], true⟩)]⟩).star emp)) from hL)
  clear hL L8
  go_wp2_with fail
  refine (L9.out.delete [] (by decide) (by decide)).mono ?_
  rw [show deletes (some ⟨0, 5, false⟩) ⟨5, false, 0, [([98], ⟨[], true⟩)]⟩ [] = (1, some ⟨0, 6, false⟩, ⟨5, false, 0, [([98], ⟨[], true⟩)]⟩) from by kernel_rfl]
  rintro e w10 ⟨rfl, hL⟩
  have L10 := Lib.hid (show Lab w w10 ((fuseT (some f) (some ⟨0, 6, false⟩)).star ((simT s (some f) ⟨5, false, 0, [([98], ⟨[], true⟩)]⟩).star emp)) from hL)
  clear hL L9
  go_wp2_with fail
  refine (Lab.fail L10.out.swap 1 (by decide)).mono ?_
  rintro e w11 ⟨rfl, hL⟩
  have L11 := Lib.hid (show Lab w w11 ((fuseT (some f) (some ⟨0, 6, false⟩)).star ((simT s (some f) ⟨5, false, 1, [([98], ⟨[], true⟩)]⟩).star emp)) from hL.swap)
  clear hL L10
  go_wp2_with fail
  refine (L11.out.delete [98] (by decide) (by decide)).mono ?_
  rw [show deletes (some ⟨0, 6, false⟩) ⟨5, false, 1, [([98], ⟨[], true⟩)]⟩ [98] = (9, some ⟨0, 7, false⟩, ⟨5, false, 0, [([98], ⟨[], true⟩)]⟩) from by kernel_rfl]
  rintro e w12 ⟨rfl, hL⟩
  have L12 := Lib.hid (show Lab w w12 ((fuseT (some f) (some ⟨0, 7, false⟩)).star ((simT s (some f) ⟨5, false, 0, [([98], ⟨[], true⟩)]⟩).star emp)) from hL)
  clear hL L11
  go_wp2_with fail
  refine (Lab.offline L12.out.swap true).mono ?_
  rintro e w13 ⟨rfl, hL⟩
  have L13 := Lib.hid (show Lab w w13 ((fuseT (some f) (some ⟨0, 7, false⟩)).star ((simT s (some f) ⟨5, true, 0, [([98], ⟨[], true⟩)]⟩).star emp)) from hL.swap)
  clear hL L12
  go_wp2_with fail
  refine (L13.out.list [] (by decide) (by decide)).mono ?_
  rw [show begins (some ⟨0, 7, false⟩) ⟨5, true, 0, [([98], ⟨[], true⟩)]⟩ [] = (10, some ⟨0, 8, false⟩, ⟨5, true, 0, [([98], ⟨[], true⟩)]⟩) from by kernel_rfl]
  rintro e w14 ⟨v, rfl, hL⟩
  have L14 := Lib.hid (show Lab w w14 ((fuseT (some f) (some ⟨0, 8, false⟩)).star ((simT s (some f) ⟨5, true, 0, [([98], ⟨[], true⟩)]⟩).star emp)) from hL.right)
  clear hL L13
  go_wp2_with fail
  refine (Lab.offline L14.out.swap false).mono ?_
  rintro e w15 ⟨rfl, hL⟩
  have L15 := Lib.hid (show Lab w w15 ((fuseT (some f) (some ⟨0, 8, false⟩)).star ((simT s (some f) ⟨5, false, 0, [([98], ⟨[], true⟩)]⟩).star emp)) from hL.swap)
  clear hL L14
  go_wp2_with fail
  refine (L15.out.fset 2 (by decide)).mono ?_
  rintro e w16 ⟨rfl, hL⟩
  have L16 := Lib.hid (show Lab w w16 ((fuseT (some f) (some ⟨2, 0, false⟩)).star ((simT s (some f) ⟨5, false, 0, [([98], ⟨[], true⟩)]⟩).star emp)) from hL)
  clear hL L15
  go_wp2_with fail
  refine (L16.out.list [] (by decide) (by decide)).mono ?_
  rw [show begins (some ⟨2, 0, false⟩) ⟨5, false, 0, [([98], ⟨[], true⟩)]⟩ [] = (0, some ⟨2, 1, false⟩, ⟨5, false, 0, [([98], ⟨[], true⟩)]⟩) from by kernel_rfl]
  rintro e w17 ⟨v2, rfl, hL⟩
  have L17 := Lib.hid (show Lab w w17 ((fuseT (some f) (some ⟨2, 1, false⟩)).star ((simT s (some f) ⟨5, false, 0, [([98], ⟨[], true⟩)]⟩).star emp)) from hL.right)
  clear hL L16
  go_wp2_with fail
  refine (L17.out.read [98] (by decide) (by decide) (by decide)).mono ?_
  rw [show opens (some ⟨2, 1, false⟩) ⟨5, false, 0, [([98], ⟨[], true⟩)]⟩ [98] [] = 0 from by kernel_rfl]
  rw [show readb (some ⟨2, 1, false⟩) ⟨5, false, 0, [([98], ⟨[], true⟩)]⟩ [98] = [] from by kernel_rfl]
  rw [show begins (some ⟨2, 1, false⟩) ⟨5, false, 0, [([98], ⟨[], true⟩)]⟩ [[98]] = (0, some ⟨2, 2, true⟩, ⟨5, false, 0, [([98], ⟨[], true⟩)]⟩) from by kernel_rfl]
  rintro e w18 ⟨u2, rfl, hL⟩
  obtain ⟨u2a, u2c, rfl⟩ : ∃ a c, u2 = .slice a 0 c := Own.slice' (ownT.own hL.left)
  have L18 := Lib.hid (show Lab w w18 ((fuseT (some f) (some ⟨2, 2, true⟩)).star ((simT s (some f) ⟨5, false, 0, [([98], ⟨[], true⟩)]⟩).star emp)) from hL.right)
  clear hL L17
  go_wp2_with fail
  refine (blown_any f _ _ L18.out.fz).mono ?_; rintro e w' ⟨rfl, rfl⟩
  go_wp2_with fail
  refine (L18.out.read [98] (by decide) (by decide) (by decide)).mono ?_
  rw [show opens (some ⟨2, 2, true⟩) ⟨5, false, 0, [([98], ⟨[], true⟩)]⟩ [98] [] = 20 from by kernel_rfl]
  rw [show readb (some ⟨2, 2, true⟩) ⟨5, false, 0, [([98], ⟨[], true⟩)]⟩ [98] = [] from by kernel_rfl]
  rw [show begins (some ⟨2, 2, true⟩) ⟨5, false, 0, [([98], ⟨[], true⟩)]⟩ [[98]] = (20, some ⟨2, 2, true⟩, ⟨5, false, 0, [([98], ⟨[], true⟩)]⟩) from by kernel_rfl]
  rintro e w19 ⟨u3, rfl, hL⟩
  obtain ⟨u3a, u3c, rfl⟩ : ∃ a c, u3 = .slice a 0 c := Own.slice' (ownT.own hL.left)
  have L19 := Lib.hid (show Lab w w19 ((fuseT (some f) (some ⟨2, 2, true⟩)).star ((simT s (some f) ⟨5, false, 0, [([98], ⟨[], true⟩)]⟩).star emp)) from hL.right)
  clear hL L18
  have ta := fun (v : Value) (xT : TypeId) (w : World) => run_typeAssert_hasB (P := Try.prog) (t := 27) (asserted := 60) Try.underlying60 (by kernel_rfl) v xT w
  have iv : ∀ (x : Value) (w : World), (invoke (.fn (.method "Room") #[]) #[.iface 27 x]).run Try.prog w = .ok (.enter 25 #[x]) w := fun x w => by kernel_rfl
  go_wp2_with fail
  refine (Lab.room L19.out L19.out.right.left (by decide)).mono ?_; rintro e w20 ⟨rfl, hL⟩
  have L20 := Lib.hid hL
  clear hL
  go_wp2_with fail
  refine (ops_any f _ _ L20.out.fz).mono ?_; rintro e w' ⟨rfl, rfl⟩
  go_wp2_with fail
  go_ret
  exact ⟨rfl, L20.out.toExt⟩
end Go.Proofs.Ytnphkddhckcpmaa
