/-
  The contracts on slices.Sorted(maps.Keys(m)) at this program: printed by the kit's lay-iter.mjs and lay-plain.mjs (wip/gen_iter.py).
-/
import Derived.Shelf.SlGeneric
import Derived.Shelf.SlIter.Nil
import Derived.Shelf.SortM.Plain
import Derived.Shelf.SortM.SortNone
import Derived.Ground.GgzProg
import Derived.Ground.SlgmProg
import Derived.Test.YtahahginmgidjaaGreatDoorProg
namespace Go.Proofs
open Go.RowKit Go.Maps Go.Sort Go.Shelf
def Tryz.keys34_ren : Go.Shelf.Ren := ⟨fun | 7 => 34 | 10 => 101 | n => n, fun | 23 => 72 | 26 => 9 | 3 => 83 | 28 => 98 | 0 => 0 | 27 => 97 | 33 => 86 | 4 => 4 | n => n, fun | n => n⟩
theorem Tryz.keys34 : Go.Proofs.SlLaysZ.n7 Tryz.prog Tryz.keys34_ren := {
  mixed := by kernel_rfl
  f7 := ⟨Tryz.f34.name, by decide, Tryz.func34.trans (congrArg some (by kernel_rfl))⟩
  f10 := ⟨Tryz.f101.name, by decide, Tryz.func101.trans (congrArg some (by kernel_rfl))⟩
  t0 := Tryz.underlying0
  a0 := Tryz.isAgg0
  z0 := Tryz.sizeOf0
  v0 := Tryz.zeroValue0
  t4 := Tryz.underlying4
  a4 := Tryz.isAgg4
  z4 := Tryz.sizeOf4
  v4 := Tryz.zeroValue4
  t23 := Tryz.underlying72
  a23 := Tryz.isAgg72
  z23 := Tryz.sizeOf72
  v23 := Tryz.zeroValue72
  t26 := Tryz.underlying9
  a26 := Tryz.isAgg9
  z26 := Tryz.sizeOf9
  v26 := Tryz.zeroValue9
  t27 := Tryz.underlying97
  a27 := Tryz.isAgg97
  z27 := Tryz.sizeOf97
  v27 := Tryz.zeroValue97
  t28 := Tryz.underlying98
  a28 := Tryz.isAgg98
  z28 := Tryz.sizeOf98
  v28 := Tryz.zeroValue98
  t33 := Tryz.underlying86
  a33 := Tryz.isAgg86
  z33 := Tryz.sizeOf86
  v33 := Tryz.zeroValue86 }
def Tryz.sorted33_ren : Go.Shelf.Ren := ⟨fun | 6 => 33 | 8 => 99 | 9 => 100 | 11 => 146 | 13 => 148 | 12 => 147 | 23 => 178 | 24 => 179 | 14 => 169 | 15 => 170 | 16 => 171 | 17 => 172 | 18 => 173 | 19 => 174 | 20 => 175 | 21 => 176 | 22 => 177 | 25 => 217 | 26 => 218 | 27 => 219 | 28 => 220 | 29 => 221 | 30 => 222 | 31 => 246 | n => n, fun | 26 => 9 | 28 => 98 | 24 => 23 | 0 => 0 | 3 => 3 | 37 => 181 | 48 => 179 | 50 => 241 | 4 => 4 | 40 => 252 | 39 => 251 | 45 => 257 | 5 => 5 | 9 => 9 | 51 => 289 | 55 => 293 | 57 => 318 | 58 => 319 | 33 => 86 | n => n, fun | n => n⟩
theorem Tryz.sorted33 : Go.Proofs.SlLaysZ.n6 Tryz.prog Tryz.sorted33_ren := {
  mixed := by kernel_rfl
  f6 := ⟨Tryz.f33.name, by decide, Tryz.func33.trans (congrArg some (by kernel_rfl))⟩
  f8 := ⟨Tryz.f99.name, by decide, Tryz.func99.trans (congrArg some (by kernel_rfl))⟩
  f11 := ⟨Tryz.f146.name, by decide, Tryz.func146.trans (congrArg some (by kernel_rfl))⟩
  t0 := Tryz.underlying0
  a0 := Tryz.isAgg0
  z0 := Tryz.sizeOf0
  v0 := Tryz.zeroValue0
  t24 := Tryz.underlying23
  a24 := Tryz.isAgg23
  z24 := Tryz.sizeOf23
  v24 := Tryz.zeroValue23
  t26 := Tryz.underlying9
  a26 := Tryz.isAgg9
  z26 := Tryz.sizeOf9
  v26 := Tryz.zeroValue9
  t28 := Tryz.underlying98
  a28 := Tryz.isAgg98
  z28 := Tryz.sizeOf98
  v28 := Tryz.zeroValue98
  i26 := by kernel_rfl }
def Tryz.sort100_ren : Go.Shelf.Ren := ⟨fun | 6 => 100 | 8 => 148 | 9 => 147 | 19 => 178 | 20 => 179 | 21 => 169 | 22 => 170 | 23 => 171 | 24 => 172 | 25 => 173 | 26 => 174 | 27 => 175 | 28 => 176 | 29 => 177 | 36 => 217 | 31 => 218 | 32 => 219 | 37 => 220 | 38 => 221 | 39 => 222 | 41 => 246 | n => n, fun | 27 => 23 | 29 => 9 | 3 => 3 | 32 => 181 | 26 => 23 | 0 => 0 | 44 => 179 | 46 => 241 | 4 => 4 | 36 => 252 | 35 => 251 | 41 => 257 | 5 => 5 | 9 => 9 | 53 => 289 | 57 => 293 | 63 => 318 | 64 => 319 | n => n, fun | n => n⟩
theorem Tryz.sort100 : Go.Proofs.SlLaysM.n6 Tryz.prog Tryz.sort100_ren := {
  mixed := by kernel_rfl
  f6 := ⟨Tryz.f100.name, by decide, Tryz.func100.trans (congrArg some (by kernel_rfl))⟩
  f8 := Tryz.func148.trans (congrArg some (by kernel_rfl))
  f9 := ⟨Tryz.f147.name, by decide, Tryz.func147.trans (congrArg some (by kernel_rfl))⟩
  f19 := Tryz.func178.trans (congrArg some (by kernel_rfl))
  f20 := Tryz.func179.trans (congrArg some (by kernel_rfl))
  f21 := ⟨Tryz.f169.name, by decide, Tryz.func169.trans (congrArg some (by kernel_rfl))⟩
  f22 := ⟨Tryz.f170.name, by decide, Tryz.func170.trans (congrArg some (by kernel_rfl))⟩
  f23 := ⟨Tryz.f171.name, by decide, Tryz.func171.trans (congrArg some (by kernel_rfl))⟩
  f24 := ⟨Tryz.f172.name, by decide, Tryz.func172.trans (congrArg some (by kernel_rfl))⟩
  f25 := ⟨Tryz.f173.name, by decide, Tryz.func173.trans (congrArg some (by kernel_rfl))⟩
  f26 := ⟨Tryz.f174.name, by decide, Tryz.func174.trans (congrArg some (by kernel_rfl))⟩
  f27 := ⟨Tryz.f175.name, by decide, Tryz.func175.trans (congrArg some (by kernel_rfl))⟩
  f28 := ⟨Tryz.f176.name, by decide, Tryz.func176.trans (congrArg some (by kernel_rfl))⟩
  f29 := ⟨Tryz.f177.name, by decide, Tryz.func177.trans (congrArg some (by kernel_rfl))⟩
  f31 := Tryz.func218.trans (congrArg some (by kernel_rfl))
  f32 := Tryz.func219.trans (congrArg some (by kernel_rfl))
  f36 := ⟨Tryz.f217.name, by decide, Tryz.func217.trans (congrArg some (by kernel_rfl))⟩
  f37 := ⟨Tryz.f220.name, by decide, Tryz.func220.trans (congrArg some (by kernel_rfl))⟩
  f38 := ⟨Tryz.f221.name, by decide, Tryz.func221.trans (congrArg some (by kernel_rfl))⟩
  f39 := ⟨Tryz.f222.name, by decide, Tryz.func222.trans (congrArg some (by kernel_rfl))⟩
  f41 := ⟨Tryz.f246.name, by decide, Tryz.func246.trans (congrArg some (by kernel_rfl))⟩
  t0 := Tryz.underlying0
  a0 := Tryz.isAgg0
  z0 := Tryz.sizeOf0
  v0 := Tryz.zeroValue0
  t3 := Tryz.underlying3
  a3 := Tryz.isAgg3
  z3 := Tryz.sizeOf3
  v3 := Tryz.zeroValue3
  t4 := Tryz.underlying4
  a4 := Tryz.isAgg4
  z4 := Tryz.sizeOf4
  v4 := Tryz.zeroValue4
  t5 := Tryz.underlying5
  a5 := Tryz.isAgg5
  z5 := Tryz.sizeOf5
  v5 := Tryz.zeroValue5
  t9 := Tryz.underlying9
  a9 := Tryz.isAgg9
  z9 := Tryz.sizeOf9
  v9 := Tryz.zeroValue9
  t26 := Tryz.underlying23
  a26 := Tryz.isAgg23
  z26 := Tryz.sizeOf23
  v26 := Tryz.zeroValue23
  t27 := Tryz.underlying23
  a27 := Tryz.isAgg23
  z27 := Tryz.sizeOf23
  v27 := Tryz.zeroValue23
  t29 := Tryz.underlying9
  a29 := Tryz.isAgg9
  z29 := Tryz.sizeOf9
  v29 := Tryz.zeroValue9
  t32 := Tryz.underlying181
  a32 := Tryz.isAgg181
  z32 := Tryz.sizeOf181
  v32 := Tryz.zeroValue181
  t35 := Tryz.underlying251
  a35 := Tryz.isAgg251
  z35 := Tryz.sizeOf251
  v35 := Tryz.zeroValue251
  t36 := Tryz.underlying252
  a36 := Tryz.isAgg252
  z36 := Tryz.sizeOf252
  v36 := Tryz.zeroValue252
  t41 := Tryz.underlying257
  a41 := Tryz.isAgg257
  z41 := Tryz.sizeOf257
  v41 := Tryz.zeroValue257
  t44 := Tryz.underlying179
  a44 := Tryz.isAgg179
  z44 := Tryz.sizeOf179
  v44 := Tryz.zeroValue179
  t46 := Tryz.underlying241
  a46 := Tryz.isAgg241
  z46 := Tryz.sizeOf241
  v46 := Tryz.zeroValue241
  t53 := Tryz.underlying289
  a53 := Tryz.isAgg289
  z53 := Tryz.sizeOf289
  v53 := Tryz.zeroValue289
  t57 := Tryz.underlying293
  a57 := Tryz.isAgg293
  z57 := Tryz.sizeOf293
  v57 := Tryz.zeroValue293
  t63 := Tryz.underlying318
  a63 := Tryz.isAgg318
  z63 := Tryz.sizeOf318
  v63 := Tryz.zeroValue318
  t64 := Tryz.underlying319
  a64 := Tryz.isAgg319
  z64 := Tryz.sizeOf319
  v64 := Tryz.zeroValue319 }


/-- slices.Sort's two contracts at this dump, at the fence that asks nothing. -/
theorem Tryz.sorts33 (m : Nat) : AnyZ.SortsIn Tryz.prog Tryz.sorted33_ren Fence.wide m :=
  ⟨fun blk off cap ss W hH hblk hsz => callsIn_wide.2 (AnyM.slices_Sort_string Tryz.sort100 blk off cap ss W hH hblk hsz),
   fun p cap W => callsIn_wide.2 (AnyM.slices_Sort_string_none Tryz.sort100 p cap W)⟩

/-- **maps.Keys[map[string]*oxbow/disk.file,string,*oxbow/disk.file], at whatever map, the nil one too:** a function value over ONE NEW BLOCK, which holds the map. -/
theorem Tryz.maps_Keys_34 (mb : Option Nat) (W : World) : CallsIn Fence.wide 5 Tryz.prog 34 #[.map mb] W fun e w' => e = .returned (.func (.func 101) #[] #[.pointer (some ⟨W.heap.size, 0, none⟩)]) ∧ w' = W.alloc (.cells #[.map mb] 72) :=
  AnyZ.keys_in Tryz.keys34 Fence.wide 5 trivial rfl mb W

set_option maxHeartbeats 1000000 in
/-- **slices.Sorted[string] AT WHAT maps.Keys[map[string]*oxbow/disk.file,string,*oxbow/disk.file] HANDED BACK FOR A MAP THAT IS NOT nil** ('w': the world AHEAD of maps.Keys' call): A NEW SLICE THAT HOLDS THE MAP's KEYS, SORTED; nil just where it has none; nothing that lay before has turned. -/
theorem Tryz.slices_Sorted_keys_33_34 {H : Type} (b nn : Nat) (D0 : DataW H) (R : Value → Option (DataW H × List MemPlace)) (w : World) (hown : w.ownsMap Tryz.prog 9 R b nn D0) (hmax : Maps.size D0 ≤ maxLen) (hbytes : Maps.size D0 * 16 ≤ 140737488355328) :
    CallsIn Fence.wide 5 Tryz.prog 33 #[.func (.func 101) #[] #[.pointer (some ⟨w.heap.size, 0, none⟩)]] (w.alloc (.cells #[.map (some b)] 72)) fun e w' => ∃ (v : Value) (ss : List (List UInt8)), e = .returned v ∧ ss.Perm (strKeys D0) ∧
      w'.ownsRow (w.alloc (.cells #[.map (some b)] 72)).heap.size 9 1 v ss.length ((ss.mergeSort (fun x y => decide (x ≤ y))).map encStr) ∧ (v = .slice none 0 0 ↔ ss = []) ∧ Below (w.alloc (.cells #[.map (some b)] 72)).heap.size (w.alloc (.cells #[.map (some b)] 72)) w' := by
  have hbl := hown.lt
  have hseq : SeqGives Fence.wide 2 Tryz.prog 101 #[.pointer (some ⟨w.heap.size, 0, none⟩)] encStr (fun ss => ss.Perm (strKeys D0)) (Maps.size D0) (w.alloc (.cells #[.map (some b)] 72)) :=
    AnyZ.keys_gives (ρ := Tryz.keys34_ren) { Tryz.keys34 with } Fence.wide _ trivial rfl (by omega) w.heap.size b nn D0 _ (by simp) (by simp) (by
      obtain ⟨es, clock, hb, Ft, hs, hD⟩ := hown
      exact ⟨es, clock, (Below.heap_alloc _ _ b hbl).trans hb, Ft, hs, hD⟩)
  exact AnyZ.sorted_in Tryz.sorted33 Fence.wide 5 trivial trivial trivial trivial rfl (by omega) (Tryz.sorts33 _) (enters_of Tryz.func100 (by kernel_rfl) rfl) 101 #[.pointer (some ⟨w.heap.size, 0, none⟩)] trivial (enters_of Tryz.func101 (by kernel_rfl) rfl) _ _ hmax hbytes _ hseq

set_option maxHeartbeats 1000000 in
/-- **.. AND FOR THE nil MAP: nil.** -/
theorem Tryz.slices_Sorted_keys_nil_33_34 (w : World) :
    CallsIn Fence.wide 5 Tryz.prog 33 #[.func (.func 101) #[] #[.pointer (some ⟨w.heap.size, 0, none⟩)]] (w.alloc (.cells #[.map none] 72)) fun e w' => ∃ (v : Value) (ss : List (List UInt8)), e = .returned v ∧ ss = [] ∧
      w'.ownsRow (w.alloc (.cells #[.map none] 72)).heap.size 9 1 v ss.length ((ss.mergeSort (fun x y => decide (x ≤ y))).map encStr) ∧ (v = .slice none 0 0 ↔ ss = []) ∧ Below (w.alloc (.cells #[.map none] 72)).heap.size (w.alloc (.cells #[.map none] 72)) w' := by
  have hseq : SeqGives Fence.wide 2 Tryz.prog 101 #[.pointer (some ⟨w.heap.size, 0, none⟩)] encStr (fun ss : List (List UInt8) => ss = []) 0 (w.alloc (.cells #[.map none] 72)) :=
    AnyZ.keys_gives_nil (ρ := Tryz.keys34_ren) { Tryz.keys34 with } Fence.wide _ trivial rfl w.heap.size _ (by simp) (by simp)
  exact AnyZ.sorted_in Tryz.sorted33 Fence.wide 5 trivial trivial trivial trivial rfl (by omega) (Tryz.sorts33 _) (enters_of Tryz.func100 (by kernel_rfl) rfl) 101 #[.pointer (some ⟨w.heap.size, 0, none⟩)] trivial (enters_of Tryz.func101 (by kernel_rfl) rfl) _ 0 (Nat.zero_le _) (by omega) _ hseq


end Go.Proofs
