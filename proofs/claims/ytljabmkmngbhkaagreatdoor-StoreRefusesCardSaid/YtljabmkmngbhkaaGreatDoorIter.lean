/-
  The contracts on slices.Sorted(maps.Keys(m)) at this program: printed by the kit's lay-iter.mjs and lay-plain.mjs (wip/gen_iter.py).
-/
import Derived.Shelf.SlGeneric
import Derived.Shelf.SlIter.Nil
import Derived.Shelf.SortM.Plain
import Derived.Shelf.SortM.SortNone
import Derived.Ground.GgzProg
import Derived.Ground.SlgmProg
import Derived.Test.YtljabmkmngbhkaaGreatDoorProg
namespace Go.Proofs
open Go.RowKit Go.Maps Go.Sort Go.Shelf
def Tryz.keys143_ren : Go.Shelf.Ren := ⟨fun | 7 => 143 | 10 => 234 | n => n, fun | 23 => 87 | 26 => 9 | 3 => 251 | 28 => 249 | 0 => 0 | 27 => 248 | 33 => 282 | 4 => 4 | n => n, fun | n => n⟩
theorem Tryz.keys143 : Go.Proofs.SlLaysZ.n7 Tryz.prog Tryz.keys143_ren := {
  mixed := by kernel_rfl
  f7 := ⟨Tryz.f143.name, by decide, Tryz.func143.trans (congrArg some (by kernel_rfl))⟩
  f10 := ⟨Tryz.f234.name, by decide, Tryz.func234.trans (congrArg some (by kernel_rfl))⟩
  t0 := Tryz.underlying0
  a0 := Tryz.isAgg0
  z0 := Tryz.sizeOf0
  v0 := Tryz.zeroValue0
  t4 := Tryz.underlying4
  a4 := Tryz.isAgg4
  z4 := Tryz.sizeOf4
  v4 := Tryz.zeroValue4
  t23 := Tryz.underlying87
  a23 := Tryz.isAgg87
  z23 := Tryz.sizeOf87
  v23 := Tryz.zeroValue87
  t26 := Tryz.underlying9
  a26 := Tryz.isAgg9
  z26 := Tryz.sizeOf9
  v26 := Tryz.zeroValue9
  t27 := Tryz.underlying248
  a27 := Tryz.isAgg248
  z27 := Tryz.sizeOf248
  v27 := Tryz.zeroValue248
  t28 := Tryz.underlying249
  a28 := Tryz.isAgg249
  z28 := Tryz.sizeOf249
  v28 := Tryz.zeroValue249
  t33 := Tryz.underlying282
  a33 := Tryz.isAgg282
  z33 := Tryz.sizeOf282
  v33 := Tryz.zeroValue282 }
def Tryz.sorted142_ren : Go.Shelf.Ren := ⟨fun | 6 => 142 | 8 => 232 | 9 => 233 | 11 => 300 | 13 => 135 | 12 => 301 | 23 => 223 | 24 => 224 | 14 => 346 | 15 => 347 | 16 => 348 | 17 => 349 | 18 => 350 | 19 => 351 | 20 => 352 | 21 => 353 | 22 => 354 | 25 => 388 | 26 => 291 | 27 => 292 | 28 => 389 | 29 => 390 | 30 => 391 | 31 => 408 | n => n, fun | 26 => 9 | 28 => 249 | 24 => 152 | 0 => 0 | 3 => 3 | 37 => 236 | 48 => 76 | 50 => 260 | 4 => 4 | 40 => 320 | 39 => 319 | 45 => 291 | 5 => 5 | 9 => 9 | 51 => 403 | 55 => 407 | 57 => 440 | 58 => 353 | 33 => 282 | n => n, fun | n => n⟩
theorem Tryz.sorted142 : Go.Proofs.SlLaysZ.n6 Tryz.prog Tryz.sorted142_ren := {
  mixed := by kernel_rfl
  f6 := ⟨Tryz.f142.name, by decide, Tryz.func142.trans (congrArg some (by kernel_rfl))⟩
  f8 := ⟨Tryz.f232.name, by decide, Tryz.func232.trans (congrArg some (by kernel_rfl))⟩
  f11 := ⟨Tryz.f300.name, by decide, Tryz.func300.trans (congrArg some (by kernel_rfl))⟩
  t0 := Tryz.underlying0
  a0 := Tryz.isAgg0
  z0 := Tryz.sizeOf0
  v0 := Tryz.zeroValue0
  t24 := Tryz.underlying152
  a24 := Tryz.isAgg152
  z24 := Tryz.sizeOf152
  v24 := Tryz.zeroValue152
  t26 := Tryz.underlying9
  a26 := Tryz.isAgg9
  z26 := Tryz.sizeOf9
  v26 := Tryz.zeroValue9
  t28 := Tryz.underlying249
  a28 := Tryz.isAgg249
  z28 := Tryz.sizeOf249
  v28 := Tryz.zeroValue249
  i26 := by kernel_rfl }
def Tryz.sort233_ren : Go.Shelf.Ren := ⟨fun | 6 => 233 | 8 => 135 | 9 => 301 | 19 => 223 | 20 => 224 | 21 => 346 | 22 => 347 | 23 => 348 | 24 => 349 | 25 => 350 | 26 => 351 | 27 => 352 | 28 => 353 | 29 => 354 | 36 => 388 | 31 => 291 | 32 => 292 | 37 => 389 | 38 => 390 | 39 => 391 | 41 => 408 | n => n, fun | 27 => 152 | 29 => 9 | 3 => 3 | 32 => 236 | 26 => 152 | 0 => 0 | 44 => 76 | 46 => 260 | 4 => 4 | 36 => 320 | 35 => 319 | 41 => 291 | 5 => 5 | 9 => 9 | 53 => 403 | 57 => 407 | 63 => 440 | 64 => 353 | n => n, fun | n => n⟩
theorem Tryz.sort233 : Go.Proofs.SlLaysM.n6 Tryz.prog Tryz.sort233_ren := {
  mixed := by kernel_rfl
  f6 := ⟨Tryz.f233.name, by decide, Tryz.func233.trans (congrArg some (by kernel_rfl))⟩
  f8 := Tryz.func135.trans (congrArg some (by kernel_rfl))
  f9 := ⟨Tryz.f301.name, by decide, Tryz.func301.trans (congrArg some (by kernel_rfl))⟩
  f19 := Tryz.func223.trans (congrArg some (by kernel_rfl))
  f20 := Tryz.func224.trans (congrArg some (by kernel_rfl))
  f21 := ⟨Tryz.f346.name, by decide, Tryz.func346.trans (congrArg some (by kernel_rfl))⟩
  f22 := ⟨Tryz.f347.name, by decide, Tryz.func347.trans (congrArg some (by kernel_rfl))⟩
  f23 := ⟨Tryz.f348.name, by decide, Tryz.func348.trans (congrArg some (by kernel_rfl))⟩
  f24 := ⟨Tryz.f349.name, by decide, Tryz.func349.trans (congrArg some (by kernel_rfl))⟩
  f25 := ⟨Tryz.f350.name, by decide, Tryz.func350.trans (congrArg some (by kernel_rfl))⟩
  f26 := ⟨Tryz.f351.name, by decide, Tryz.func351.trans (congrArg some (by kernel_rfl))⟩
  f27 := ⟨Tryz.f352.name, by decide, Tryz.func352.trans (congrArg some (by kernel_rfl))⟩
  f28 := ⟨Tryz.f353.name, by decide, Tryz.func353.trans (congrArg some (by kernel_rfl))⟩
  f29 := ⟨Tryz.f354.name, by decide, Tryz.func354.trans (congrArg some (by kernel_rfl))⟩
  f31 := Tryz.func291.trans (congrArg some (by kernel_rfl))
  f32 := Tryz.func292.trans (congrArg some (by kernel_rfl))
  f36 := ⟨Tryz.f388.name, by decide, Tryz.func388.trans (congrArg some (by kernel_rfl))⟩
  f37 := ⟨Tryz.f389.name, by decide, Tryz.func389.trans (congrArg some (by kernel_rfl))⟩
  f38 := ⟨Tryz.f390.name, by decide, Tryz.func390.trans (congrArg some (by kernel_rfl))⟩
  f39 := ⟨Tryz.f391.name, by decide, Tryz.func391.trans (congrArg some (by kernel_rfl))⟩
  f41 := ⟨Tryz.f408.name, by decide, Tryz.func408.trans (congrArg some (by kernel_rfl))⟩
  t0 := Tryz.underlying0
  a0 := Tryz.isAgg0
  z0 := Tryz.sizeOf0
  v0 := Tryz.zeroValue0
  t3 := Tryz.underlying3
  a3 := Tryz.isAgg3
  z3 := Tryz.sizeOf3
  v3 := Tryz.zeroValue3
  t4 := Tryz.underlying4
  a4 := Tryz.isAgg4
  z4 := Tryz.sizeOf4
  v4 := Tryz.zeroValue4
  t5 := Tryz.underlying5
  a5 := Tryz.isAgg5
  z5 := Tryz.sizeOf5
  v5 := Tryz.zeroValue5
  t9 := Tryz.underlying9
  a9 := Tryz.isAgg9
  z9 := Tryz.sizeOf9
  v9 := Tryz.zeroValue9
  t26 := Tryz.underlying152
  a26 := Tryz.isAgg152
  z26 := Tryz.sizeOf152
  v26 := Tryz.zeroValue152
  t27 := Tryz.underlying152
  a27 := Tryz.isAgg152
  z27 := Tryz.sizeOf152
  v27 := Tryz.zeroValue152
  t29 := Tryz.underlying9
  a29 := Tryz.isAgg9
  z29 := Tryz.sizeOf9
  v29 := Tryz.zeroValue9
  t32 := Tryz.underlying236
  a32 := Tryz.isAgg236
  z32 := Tryz.sizeOf236
  v32 := Tryz.zeroValue236
  t35 := Tryz.underlying319
  a35 := Tryz.isAgg319
  z35 := Tryz.sizeOf319
  v35 := Tryz.zeroValue319
  t36 := Tryz.underlying320
  a36 := Tryz.isAgg320
  z36 := Tryz.sizeOf320
  v36 := Tryz.zeroValue320
  t41 := Tryz.underlying291
  a41 := Tryz.isAgg291
  z41 := Tryz.sizeOf291
  v41 := Tryz.zeroValue291
  t44 := Tryz.underlying76
  a44 := Tryz.isAgg76
  z44 := Tryz.sizeOf76
  v44 := Tryz.zeroValue76
  t46 := Tryz.underlying260
  a46 := Tryz.isAgg260
  z46 := Tryz.sizeOf260
  v46 := Tryz.zeroValue260
  t53 := Tryz.underlying403
  a53 := Tryz.isAgg403
  z53 := Tryz.sizeOf403
  v53 := Tryz.zeroValue403
  t57 := Tryz.underlying407
  a57 := Tryz.isAgg407
  z57 := Tryz.sizeOf407
  v57 := Tryz.zeroValue407
  t63 := Tryz.underlying440
  a63 := Tryz.isAgg440
  z63 := Tryz.sizeOf440
  v63 := Tryz.zeroValue440
  t64 := Tryz.underlying353
  a64 := Tryz.isAgg353
  z64 := Tryz.sizeOf353
  v64 := Tryz.zeroValue353 }


/-- slices.Sort's two contracts at this dump, at the fence that asks nothing. -/
theorem Tryz.sorts142 (m : Nat) : AnyZ.SortsIn Tryz.prog Tryz.sorted142_ren Fence.wide m :=
  ⟨fun blk off cap ss W hH hblk hsz => callsIn_wide.2 (AnyM.slices_Sort_string Tryz.sort233 blk off cap ss W hH hblk hsz),
   fun p cap W => callsIn_wide.2 (AnyM.slices_Sort_string_none Tryz.sort233 p cap W)⟩

/-- **maps.Keys[map[string]*oxbow/disk.file,string,*oxbow/disk.file], at whatever map, the nil one too:** a function value over ONE NEW BLOCK, which holds the map. -/
theorem Tryz.maps_Keys_143 (mb : Option Nat) (W : World) : CallsIn Fence.wide 5 Tryz.prog 143 #[.map mb] W fun e w' => e = .returned (.func (.func 234) #[] #[.pointer (some ⟨W.heap.size, 0, none⟩)]) ∧ w' = W.alloc (.cells #[.map mb] 87) :=
  AnyZ.keys_in Tryz.keys143 Fence.wide 5 trivial rfl mb W

set_option maxHeartbeats 1000000 in
/-- **slices.Sorted[string] AT WHAT maps.Keys[map[string]*oxbow/disk.file,string,*oxbow/disk.file] HANDED BACK FOR A MAP THAT IS NOT nil** ('w': the world AHEAD of maps.Keys' call): A NEW SLICE THAT HOLDS THE MAP's KEYS, SORTED; nil just where it has none; nothing that lay before has turned. -/
theorem Tryz.slices_Sorted_keys_142_143 {H : Type} (b nn : Nat) (D0 : DataW H) (R : Value → Option (DataW H × List MemPlace)) (w : World) (hown : w.ownsMap Tryz.prog 9 R b nn D0) (hmax : Maps.size D0 ≤ maxLen) (hbytes : Maps.size D0 * 16 ≤ 140737488355328) :
    CallsIn Fence.wide 5 Tryz.prog 142 #[.func (.func 234) #[] #[.pointer (some ⟨w.heap.size, 0, none⟩)]] (w.alloc (.cells #[.map (some b)] 87)) fun e w' => ∃ (v : Value) (ss : List (List UInt8)), e = .returned v ∧ ss.Perm (strKeys D0) ∧
      w'.ownsRow (w.alloc (.cells #[.map (some b)] 87)).heap.size 9 1 v ss.length ((ss.mergeSort (fun x y => decide (x ≤ y))).map encStr) ∧ (v = .slice none 0 0 ↔ ss = []) ∧ Below (w.alloc (.cells #[.map (some b)] 87)).heap.size (w.alloc (.cells #[.map (some b)] 87)) w' := by
  have hbl := hown.lt
  have hseq : SeqGives Fence.wide 2 Tryz.prog 234 #[.pointer (some ⟨w.heap.size, 0, none⟩)] encStr (fun ss => ss.Perm (strKeys D0)) (Maps.size D0) (w.alloc (.cells #[.map (some b)] 87)) :=
    AnyZ.keys_gives (ρ := Tryz.keys143_ren) { Tryz.keys143 with } Fence.wide _ trivial rfl (by omega) w.heap.size b nn D0 _ (by simp) (by simp) (by
      obtain ⟨es, clock, hb, Ft, hs, hD⟩ := hown
      exact ⟨es, clock, (Below.heap_alloc _ _ b hbl).trans hb, Ft, hs, hD⟩)
  exact AnyZ.sorted_in Tryz.sorted142 Fence.wide 5 trivial trivial trivial trivial rfl (by omega) (Tryz.sorts142 _) (enters_of Tryz.func233 (by kernel_rfl) rfl) 234 #[.pointer (some ⟨w.heap.size, 0, none⟩)] trivial (enters_of Tryz.func234 (by kernel_rfl) rfl) _ _ hmax hbytes _ hseq

set_option maxHeartbeats 1000000 in
/-- **.. AND FOR THE nil MAP: nil.** -/
theorem Tryz.slices_Sorted_keys_nil_142_143 (w : World) :
    CallsIn Fence.wide 5 Tryz.prog 142 #[.func (.func 234) #[] #[.pointer (some ⟨w.heap.size, 0, none⟩)]] (w.alloc (.cells #[.map none] 87)) fun e w' => ∃ (v : Value) (ss : List (List UInt8)), e = .returned v ∧ ss = [] ∧
      w'.ownsRow (w.alloc (.cells #[.map none] 87)).heap.size 9 1 v ss.length ((ss.mergeSort (fun x y => decide (x ≤ y))).map encStr) ∧ (v = .slice none 0 0 ↔ ss = []) ∧ Below (w.alloc (.cells #[.map none] 87)).heap.size (w.alloc (.cells #[.map none] 87)) w' := by
  have hseq : SeqGives Fence.wide 2 Tryz.prog 234 #[.pointer (some ⟨w.heap.size, 0, none⟩)] encStr (fun ss : List (List UInt8) => ss = []) 0 (w.alloc (.cells #[.map none] 87)) :=
    AnyZ.keys_gives_nil (ρ := Tryz.keys143_ren) { Tryz.keys143 with } Fence.wide _ trivial rfl w.heap.size _ (by simp) (by simp)
  exact AnyZ.sorted_in Tryz.sorted142 Fence.wide 5 trivial trivial trivial trivial rfl (by omega) (Tryz.sorts142 _) (enters_of Tryz.func233 (by kernel_rfl) rfl) 234 #[.pointer (some ⟨w.heap.size, 0, none⟩)] trivial (enters_of Tryz.func234 (by kernel_rfl) rfl) _ 0 (Nat.zero_le _) (by omega) _ hseq


end Go.Proofs
