/-
  The contracts on slices.Sorted(maps.Keys(m)) at this program: printed by the kit's lay-iter.mjs and lay-plain.mjs (wip/gen_iter.py).
-/
import Derived.Shelf.SlGeneric
import Derived.Shelf.SlIter.Nil
import Derived.Shelf.SortM.Plain
import Derived.Shelf.SortM.SortNone
import Derived.Ground.GgzProg
import Derived.Ground.SlgmProg
import Derived.Test.YtjfbcjmnjlehaaaGreatDoorProg
namespace Go.Proofs
open Go.RowKit Go.Maps Go.Sort Go.Shelf
def Tryz.keys115_ren : Go.Shelf.Ren := ⟨fun | 7 => 115 | 10 => 140 | n => n, fun | 23 => 61 | 26 => 9 | 3 => 126 | 28 => 158 | 0 => 0 | 27 => 157 | 33 => 129 | 4 => 4 | n => n, fun | n => n⟩
theorem Tryz.keys115 : Go.Proofs.SlLaysZ.n7 Tryz.prog Tryz.keys115_ren := {
  mixed := by kernel_rfl
  f7 := ⟨Tryz.f115.name, by decide, Tryz.func115.trans (congrArg some (by kernel_rfl))⟩
  f10 := ⟨Tryz.f140.name, by decide, Tryz.func140.trans (congrArg some (by kernel_rfl))⟩
  t0 := Tryz.underlying0
  a0 := Tryz.isAgg0
  z0 := Tryz.sizeOf0
  v0 := Tryz.zeroValue0
  t4 := Tryz.underlying4
  a4 := Tryz.isAgg4
  z4 := Tryz.sizeOf4
  v4 := Tryz.zeroValue4
  t23 := Tryz.underlying61
  a23 := Tryz.isAgg61
  z23 := Tryz.sizeOf61
  v23 := Tryz.zeroValue61
  t26 := Tryz.underlying9
  a26 := Tryz.isAgg9
  z26 := Tryz.sizeOf9
  v26 := Tryz.zeroValue9
  t27 := Tryz.underlying157
  a27 := Tryz.isAgg157
  z27 := Tryz.sizeOf157
  v27 := Tryz.zeroValue157
  t28 := Tryz.underlying158
  a28 := Tryz.isAgg158
  z28 := Tryz.sizeOf158
  v28 := Tryz.zeroValue158
  t33 := Tryz.underlying129
  a33 := Tryz.isAgg129
  z33 := Tryz.sizeOf129
  v33 := Tryz.zeroValue129 }
def Tryz.sorted114_ren : Go.Shelf.Ren := ⟨fun | 6 => 114 | 8 => 138 | 9 => 139 | 11 => 156 | 13 => 158 | 12 => 157 | 23 => 175 | 24 => 150 | 14 => 166 | 15 => 167 | 16 => 168 | 17 => 169 | 18 => 170 | 19 => 171 | 20 => 172 | 21 => 173 | 22 => 174 | 25 => 177 | 26 => 178 | 27 => 179 | 28 => 180 | 29 => 181 | 30 => 182 | 31 => 184 | n => n, fun | 26 => 9 | 28 => 158 | 24 => 43 | 0 => 0 | 3 => 3 | 37 => 115 | 48 => 143 | 50 => 161 | 4 => 4 | 40 => 219 | 39 => 218 | 45 => 223 | 5 => 5 | 9 => 9 | 51 => 227 | 55 => 231 | 57 => 233 | 58 => 234 | 33 => 129 | n => n, fun | n => n⟩
theorem Tryz.sorted114 : Go.Proofs.SlLaysZ.n6 Tryz.prog Tryz.sorted114_ren := {
  mixed := by kernel_rfl
  f6 := ⟨Tryz.f114.name, by decide, Tryz.func114.trans (congrArg some (by kernel_rfl))⟩
  f8 := ⟨Tryz.f138.name, by decide, Tryz.func138.trans (congrArg some (by kernel_rfl))⟩
  f11 := ⟨Tryz.f156.name, by decide, Tryz.func156.trans (congrArg some (by kernel_rfl))⟩
  t0 := Tryz.underlying0
  a0 := Tryz.isAgg0
  z0 := Tryz.sizeOf0
  v0 := Tryz.zeroValue0
  t24 := Tryz.underlying43
  a24 := Tryz.isAgg43
  z24 := Tryz.sizeOf43
  v24 := Tryz.zeroValue43
  t26 := Tryz.underlying9
  a26 := Tryz.isAgg9
  z26 := Tryz.sizeOf9
  v26 := Tryz.zeroValue9
  t28 := Tryz.underlying158
  a28 := Tryz.isAgg158
  z28 := Tryz.sizeOf158
  v28 := Tryz.zeroValue158
  i26 := by kernel_rfl }
def Tryz.sort139_ren : Go.Shelf.Ren := ⟨fun | 6 => 139 | 8 => 158 | 9 => 157 | 19 => 175 | 20 => 150 | 21 => 166 | 22 => 167 | 23 => 168 | 24 => 169 | 25 => 170 | 26 => 171 | 27 => 172 | 28 => 173 | 29 => 174 | 36 => 177 | 31 => 178 | 32 => 179 | 37 => 180 | 38 => 181 | 39 => 182 | 41 => 184 | n => n, fun | 27 => 43 | 29 => 9 | 3 => 3 | 32 => 115 | 26 => 43 | 0 => 0 | 44 => 143 | 46 => 161 | 4 => 4 | 36 => 219 | 35 => 218 | 41 => 223 | 5 => 5 | 9 => 9 | 53 => 227 | 57 => 231 | 63 => 233 | 64 => 234 | n => n, fun | n => n⟩
theorem Tryz.sort139 : Go.Proofs.SlLaysM.n6 Tryz.prog Tryz.sort139_ren := {
  mixed := by kernel_rfl
  f6 := ⟨Tryz.f139.name, by decide, Tryz.func139.trans (congrArg some (by kernel_rfl))⟩
  f8 := Tryz.func158.trans (congrArg some (by kernel_rfl))
  f9 := ⟨Tryz.f157.name, by decide, Tryz.func157.trans (congrArg some (by kernel_rfl))⟩
  f19 := Tryz.func175.trans (congrArg some (by kernel_rfl))
  f20 := Tryz.func150.trans (congrArg some (by kernel_rfl))
  f21 := ⟨Tryz.f166.name, by decide, Tryz.func166.trans (congrArg some (by kernel_rfl))⟩
  f22 := ⟨Tryz.f167.name, by decide, Tryz.func167.trans (congrArg some (by kernel_rfl))⟩
  f23 := ⟨Tryz.f168.name, by decide, Tryz.func168.trans (congrArg some (by kernel_rfl))⟩
  f24 := ⟨Tryz.f169.name, by decide, Tryz.func169.trans (congrArg some (by kernel_rfl))⟩
  f25 := ⟨Tryz.f170.name, by decide, Tryz.func170.trans (congrArg some (by kernel_rfl))⟩
  f26 := ⟨Tryz.f171.name, by decide, Tryz.func171.trans (congrArg some (by kernel_rfl))⟩
  f27 := ⟨Tryz.f172.name, by decide, Tryz.func172.trans (congrArg some (by kernel_rfl))⟩
  f28 := ⟨Tryz.f173.name, by decide, Tryz.func173.trans (congrArg some (by kernel_rfl))⟩
  f29 := ⟨Tryz.f174.name, by decide, Tryz.func174.trans (congrArg some (by kernel_rfl))⟩
  f31 := Tryz.func178.trans (congrArg some (by kernel_rfl))
  f32 := Tryz.func179.trans (congrArg some (by kernel_rfl))
  f36 := ⟨Tryz.f177.name, by decide, Tryz.func177.trans (congrArg some (by kernel_rfl))⟩
  f37 := ⟨Tryz.f180.name, by decide, Tryz.func180.trans (congrArg some (by kernel_rfl))⟩
  f38 := ⟨Tryz.f181.name, by decide, Tryz.func181.trans (congrArg some (by kernel_rfl))⟩
  f39 := ⟨Tryz.f182.name, by decide, Tryz.func182.trans (congrArg some (by kernel_rfl))⟩
  f41 := ⟨Tryz.f184.name, by decide, Tryz.func184.trans (congrArg some (by kernel_rfl))⟩
  t0 := Tryz.underlying0
  a0 := Tryz.isAgg0
  z0 := Tryz.sizeOf0
  v0 := Tryz.zeroValue0
  t3 := Tryz.underlying3
  a3 := Tryz.isAgg3
  z3 := Tryz.sizeOf3
  v3 := Tryz.zeroValue3
  t4 := Tryz.underlying4
  a4 := Tryz.isAgg4
  z4 := Tryz.sizeOf4
  v4 := Tryz.zeroValue4
  t5 := Tryz.underlying5
  a5 := Tryz.isAgg5
  z5 := Tryz.sizeOf5
  v5 := Tryz.zeroValue5
  t9 := Tryz.underlying9
  a9 := Tryz.isAgg9
  z9 := Tryz.sizeOf9
  v9 := Tryz.zeroValue9
  t26 := Tryz.underlying43
  a26 := Tryz.isAgg43
  z26 := Tryz.sizeOf43
  v26 := Tryz.zeroValue43
  t27 := Tryz.underlying43
  a27 := Tryz.isAgg43
  z27 := Tryz.sizeOf43
  v27 := Tryz.zeroValue43
  t29 := Tryz.underlying9
  a29 := Tryz.isAgg9
  z29 := Tryz.sizeOf9
  v29 := Tryz.zeroValue9
  t32 := Tryz.underlying115
  a32 := Tryz.isAgg115
  z32 := Tryz.sizeOf115
  v32 := Tryz.zeroValue115
  t35 := Tryz.underlying218
  a35 := Tryz.isAgg218
  z35 := Tryz.sizeOf218
  v35 := Tryz.zeroValue218
  t36 := Tryz.underlying219
  a36 := Tryz.isAgg219
  z36 := Tryz.sizeOf219
  v36 := Tryz.zeroValue219
  t41 := Tryz.underlying223
  a41 := Tryz.isAgg223
  z41 := Tryz.sizeOf223
  v41 := Tryz.zeroValue223
  t44 := Tryz.underlying143
  a44 := Tryz.isAgg143
  z44 := Tryz.sizeOf143
  v44 := Tryz.zeroValue143
  t46 := Tryz.underlying161
  a46 := Tryz.isAgg161
  z46 := Tryz.sizeOf161
  v46 := Tryz.zeroValue161
  t53 := Tryz.underlying227
  a53 := Tryz.isAgg227
  z53 := Tryz.sizeOf227
  v53 := Tryz.zeroValue227
  t57 := Tryz.underlying231
  a57 := Tryz.isAgg231
  z57 := Tryz.sizeOf231
  v57 := Tryz.zeroValue231
  t63 := Tryz.underlying233
  a63 := Tryz.isAgg233
  z63 := Tryz.sizeOf233
  v63 := Tryz.zeroValue233
  t64 := Tryz.underlying234
  a64 := Tryz.isAgg234
  z64 := Tryz.sizeOf234
  v64 := Tryz.zeroValue234 }


/-- slices.Sort's two contracts at this dump, at the fence that asks nothing. -/
theorem Tryz.sorts114 (m : Nat) : AnyZ.SortsIn Tryz.prog Tryz.sorted114_ren Fence.wide m :=
  ⟨fun blk off cap ss W hH hblk hsz => callsIn_wide.2 (AnyM.slices_Sort_string Tryz.sort139 blk off cap ss W hH hblk hsz),
   fun p cap W => callsIn_wide.2 (AnyM.slices_Sort_string_none Tryz.sort139 p cap W)⟩

/-- **maps.Keys[map[string]*oxbow/disk.file,string,*oxbow/disk.file], at whatever map, the nil one too:** a function value over ONE NEW BLOCK, which holds the map. -/
theorem Tryz.maps_Keys_115 (mb : Option Nat) (W : World) : CallsIn Fence.wide 5 Tryz.prog 115 #[.map mb] W fun e w' => e = .returned (.func (.func 140) #[] #[.pointer (some ⟨W.heap.size, 0, none⟩)]) ∧ w' = W.alloc (.cells #[.map mb] 61) :=
  AnyZ.keys_in Tryz.keys115 Fence.wide 5 trivial rfl mb W

set_option maxHeartbeats 1000000 in
/-- **slices.Sorted[string] AT WHAT maps.Keys[map[string]*oxbow/disk.file,string,*oxbow/disk.file] HANDED BACK FOR A MAP THAT IS NOT nil** ('w': the world AHEAD of maps.Keys' call): A NEW SLICE THAT HOLDS THE MAP's KEYS, SORTED; nil just where it has none; nothing that lay before has turned. -/
theorem Tryz.slices_Sorted_keys_114_115 {H : Type} (b nn : Nat) (D0 : DataW H) (R : Value → Option (DataW H × List MemPlace)) (w : World) (hown : w.ownsMap Tryz.prog 9 R b nn D0) (hmax : Maps.size D0 ≤ maxLen) (hbytes : Maps.size D0 * 16 ≤ 140737488355328) :
    CallsIn Fence.wide 5 Tryz.prog 114 #[.func (.func 140) #[] #[.pointer (some ⟨w.heap.size, 0, none⟩)]] (w.alloc (.cells #[.map (some b)] 61)) fun e w' => ∃ (v : Value) (ss : List (List UInt8)), e = .returned v ∧ ss.Perm (strKeys D0) ∧
      w'.ownsRow (w.alloc (.cells #[.map (some b)] 61)).heap.size 9 1 v ss.length ((ss.mergeSort (fun x y => decide (x ≤ y))).map encStr) ∧ (v = .slice none 0 0 ↔ ss = []) ∧ Below (w.alloc (.cells #[.map (some b)] 61)).heap.size (w.alloc (.cells #[.map (some b)] 61)) w' := by
  have hbl := hown.lt
  have hseq : SeqGives Fence.wide 2 Tryz.prog 140 #[.pointer (some ⟨w.heap.size, 0, none⟩)] encStr (fun ss => ss.Perm (strKeys D0)) (Maps.size D0) (w.alloc (.cells #[.map (some b)] 61)) :=
    AnyZ.keys_gives (ρ := Tryz.keys115_ren) { Tryz.keys115 with } Fence.wide _ trivial rfl (by omega) w.heap.size b nn D0 _ (by simp) (by simp) (by
      obtain ⟨es, clock, hb, Ft, hs, hD⟩ := hown
      exact ⟨es, clock, (Below.heap_alloc _ _ b hbl).trans hb, Ft, hs, hD⟩)
  exact AnyZ.sorted_in Tryz.sorted114 Fence.wide 5 trivial trivial trivial trivial rfl (by omega) (Tryz.sorts114 _) (enters_of Tryz.func139 (by kernel_rfl) rfl) 140 #[.pointer (some ⟨w.heap.size, 0, none⟩)] trivial (enters_of Tryz.func140 (by kernel_rfl) rfl) _ _ hmax hbytes _ hseq

set_option maxHeartbeats 1000000 in
/-- **.. AND FOR THE nil MAP: nil.** -/
theorem Tryz.slices_Sorted_keys_nil_114_115 (w : World) :
    CallsIn Fence.wide 5 Tryz.prog 114 #[.func (.func 140) #[] #[.pointer (some ⟨w.heap.size, 0, none⟩)]] (w.alloc (.cells #[.map none] 61)) fun e w' => ∃ (v : Value) (ss : List (List UInt8)), e = .returned v ∧ ss = [] ∧
      w'.ownsRow (w.alloc (.cells #[.map none] 61)).heap.size 9 1 v ss.length ((ss.mergeSort (fun x y => decide (x ≤ y))).map encStr) ∧ (v = .slice none 0 0 ↔ ss = []) ∧ Below (w.alloc (.cells #[.map none] 61)).heap.size (w.alloc (.cells #[.map none] 61)) w' := by
  have hseq : SeqGives Fence.wide 2 Tryz.prog 140 #[.pointer (some ⟨w.heap.size, 0, none⟩)] encStr (fun ss : List (List UInt8) => ss = []) 0 (w.alloc (.cells #[.map none] 61)) :=
    AnyZ.keys_gives_nil (ρ := Tryz.keys115_ren) { Tryz.keys115 with } Fence.wide _ trivial rfl w.heap.size _ (by simp) (by simp)
  exact AnyZ.sorted_in Tryz.sorted114 Fence.wide 5 trivial trivial trivial trivial rfl (by omega) (Tryz.sorts114 _) (enters_of Tryz.func139 (by kernel_rfl) rfl) 140 #[.pointer (some ⟨w.heap.size, 0, none⟩)] trivial (enters_of Tryz.func140 (by kernel_rfl) rfl) _ 0 (Nat.zero_le _) (by omega) _ hseq


end Go.Proofs
