/-
  The program's frame: Put.
  The program's frame: Get.
  A list whose elements lie one behind another in a block of their own: one set of laws for every element type (a 'Codec': how an element reads as cells). Plain laws over the program; no condition.
  The program's frame: All.
  Names of logs, for the small numbers that the laws use.
  The disk: Cut (and slices.Clone of ints).
  A disk of the call's own: every call in one form; wakes.
  The disk: Remove, Break, On, Off.
-/
import Derived.Test.YtljabmkmngbhkaaGreatDoorZMg00
import Derived.Test.YtljabmkmngbhkaaGreatDoorZMg09
import Derived.Deep.DeepCutAuto
import Derived.Outline
import Derived.Deep.QuietTactic
import Derived.BigQuiet
import Derived.Laws.Strings
import Derived.Test.YtljabmkmngbhkaaGreatDoorProg
import Derived.Test.YtljabmkmngbhkaaGreatDoorZOwn
import Derived.Deep.RegionLaw
import Derived.Test.YtljabmkmngbhkaaGreatDoorLay
import Derived.Lib.SliceRun
namespace Go.Proofs.YtljabmkmngbhkaaGreatDoor
open Go.RowKit
set_option linter.unusedVariables false
set_option linter.unusedSimpArgs false

theorem run_arr_string {w : World} {g : Nat} {T : TypeId} (hd : ByteArray) (h8 : hd.size = 8) (h : Blk w g T (byteCells hd).toArray) : (convert 169 9 (.slice (some ⟨g, 0, none⟩) 8 8)).run Tryz.prog w = .ok (.string hd) w := by
  rw [run_convert_bytes_string w 169 9 5 _ 8 8 Tryz.underlying169 Tryz.underlying5 Tryz.underlying9]
  have hn : (byteCells hd).length = 8 * 1 := by rw [byteCells_length, h8]
  have hcells : ∀ j u, (byteCells hd)[j]? = some u → w.cell? ((⟨g, 0, none⟩ : Addr).add j) = some u := fun j u hu => by
    have e : (⟨g, 0, none⟩ : Addr).add j = ⟨g, j, none⟩ := by rw [Addr.add_lit]; simp
    rw [e, h.cell j]
    simpa using hu
  have hl : (loadCells ⟨g, 0, none⟩ (8 * 1)).run Tryz.prog w = .ok (byteCells hd).toArray w := run_firstCells_some w 1 8 ⟨g, 0, none⟩ 8 8 (byteCells hd) hn hcells
  rw [Nat.mul_one] at hl
  have hb : byteCells hd = (hd.data.toList.map fun b => (b.toNat : Int)).map (Value.int .u8) := by unfold byteCells; rw [List.map_map]; rfl
  rw [hb] at hl
  rw [run_bytesToString w ⟨g, 0, none⟩ 8 8 _ hl, fold_push]
  simp
theorem not8 (d : Nat) (h : d < 256) : bits .xor .u8 IntKind.u8.max (d : Int) = ((255 - d : Nat) : Int) := by
  have e : ∀ d : Fin 256, 255 ^^^ d.val = 255 - d.val := by decide +kernel
  have := u8_xor_nat 255 d (by omega) h
  rw [e ⟨d, h⟩, show (((255 : Nat) : Int)) = IntKind.u8.max from rfl] at this
  exact this
def fraCells (n c k : Nat) : Array Value := #[.int .u8 ((n : Int) / 256), .int .u8 ((n : Int) % 256), .int .u8 ((255 - n / 256 : Nat) : Int), .int .u8 ((255 - n % 256 : Nat) : Int),
  if 0 < k then .int .u8 ((c : Int) / 16777216) else .int .u8 0, if 1 < k then .int .u8 ((c : Int) / 65536 % 256) else .int .u8 0, if 2 < k then .int .u8 ((c : Int) / 256 % 256) else .int .u8 0, if 3 < k then .int .u8 ((c : Int) % 256) else .int .u8 0]
theorem fraCells_all (n c : Nat) (hn : n ≤ 65535) (hc : c < 4294967296) : fraCells n c 4 = (byteCells ⟨(fraHead n c).toArray⟩).toArray := by
  have key : ∀ m : Nat, m < 256 → ∀ z : Int, z = (m : Int) → Value.int .u8 z = .int .u8 ((u8 m).toNat : Int) := fun m hm z hz => by rw [u8_nat hm, hz]
  simp only [fraCells, byteCells, fraHead, List.map_cons, List.map_nil]
  rw [if_pos (by omega), if_pos (by omega), if_pos (by omega), if_pos (by omega)]
  rw [← key (n / 256) (by omega) _ rfl, ← key (n % 256) (by omega) _ rfl, ← key (255 - n / 256) (by omega) _ rfl, ← key (255 - n % 256) (by omega) _ rfl, ← key (c / 16777216) (by omega) _ rfl, ← key (c / 65536 % 256) (by omega) _ rfl, ← key (c / 256 % 256) (by omega) _ rfl, ← key (c % 256) (by omega) _ rfl]
  simp
set_option maxRecDepth 100000 in
set_option maxHeartbeats 2000000 in
theorem fra_put_no (s : ByteArray) (w : World) (hs : s.size ≤ 140737488355328) (h : 65535 < s.size) : Calls Tryz.prog 87 #[.string s] w fun e w' => e = .returned (.tuple #[.string ⟨#[]⟩, .int .i64 5]) ∧ w = w' := by
  go_enter Tryz.func87, Tryz.ntmps87
  go_wp2_with fail
  go_ret2
  exact ⟨rfl, rfl⟩
set_option maxRecDepth 100000 in
set_option maxHeartbeats 2000000 in
theorem fra_put (s : ByteArray) (w : World) (h : s.size ≤ 65535) : Calls Tryz.prog 87 #[.string s] w fun e w' => (∃ t : ByteArray, t.data.toList = fraB s.data.toList ∧ e = .returned (.tuple #[.string t, .int .i64 0])) ∧ Chg (fun _ => False) w w' := by
  have hcl := crcSum_lt s.data.toList
  obtain ⟨c, hc⟩ : ∃ c, crcSum s.data.toList = c := ⟨_, rfl⟩
  have hsum := fra_sum s w (by omega)
  rw [hc] at hsum hcl
  have HS := Lib.hid hsum
  have HC := Lib.hid hc
  clear hsum hc
  go_enter Tryz.func87, Tryz.ntmps87
  go_wp2_with fail
  refine HS.out.mono ?_
  rintro e w' ⟨rfl, rfl⟩
  have hx1 : bits .xor .u8 (if IntKind.u8.signed = true then -1 else IntKind.u8.max) ((s.size : Int) / 256) = ((255 - s.size / 256 : Nat) : Int) := by
    rw [if_neg (by decide), show (s.size : Int) / 256 = ((s.size / 256 : Nat) : Int) by omega]
    exact not8 _ (by omega)
  have hx2 : bits .xor .u8 (if IntKind.u8.signed = true then -1 else IntKind.u8.max) ((s.size : Int) % 256) = ((255 - s.size % 256 : Nat) : Int) := by
    rw [if_neg (by decide), show (s.size : Int) % 256 = ((s.size % 256 : Nat) : Int) by omega]
    exact not8 _ (by omega)
  obtain ⟨w1, hw1⟩ : ∃ w1, w1 = w.alloc (.cells #[.int .u8 ((s.size : Int) / 256), .int .u8 ((s.size : Int) % 256), .int .u8 ((255 - s.size / 256 : Nat) : Int), .int .u8 ((255 - s.size % 256 : Nat) : Int), .int .u8 0, .int .u8 0, .int .u8 0, .int .u8 0] 269) := ⟨_, rfl⟩
  have hc1 : Chg (fun _ => False) w w1 := by rw [hw1]; exact cgS
  have hb1 : Blk w1 w.heap.size 269 (fraCells s.size c 0) := by rw [hw1]; exact Blk.new w _ _
  have HW1 := Lib.hid hw1
  have HC1 := Lib.hid hc1
  have HB1 := Lib.hid hb1
  clear hw1 hc1 hb1
  go_upto_region 5 with fail
  rw [← HW1.out]
  clear hx1 hx2
  go_wp2_with fail
  go_loopw [29] (fun i wr => ∃ k : Nat, k ≤ 4 ∧ i = .int .i64 k ∧ Blk wr w.heap.size 269 (fraCells s.size c k) ∧ Chg (fun j => j = w.heap.size) w1 wr) (fun i _ => 4 - (intOf i).toNat)
  case atStart => exact ⟨0, by omega, rfl, HB1.out, Chg.refl _ _⟩
  case round =>
    obtain ⟨k, hk, rfl, hB, hcr⟩ := hrel
    by_cases hlt : k < 4
    · have hcase : k = 0 ∨ k = 1 ∨ k = 2 ∨ k = 3 := by omega
      have hfr := fun i => hB.frozen i
      have hf4 := hfr 4
      have hf5 := hfr 5
      have hf6 := hfr 6
      have hf7 := hfr 7
      have hj4 := hB.cell 4
      have hj5 := hB.cell 5
      have hj6 := hB.cell 6
      have hj7 := hB.cell 7
      have hk0 : (0 : Int) ≤ (k : Int) := by omega
      have hB' := hB.set_ (4 + k) (.int .u8 (if k = 0 then (c : Int) / 16777216 else if k = 1 then (c : Int) / 65536 % 256 else if k = 2 then (c : Int) / 256 % 256 else (c : Int) % 256))
      have hbn : (fraCells s.size c k).setIfInBounds (4 + k) (.int .u8 (if k = 0 then (c : Int) / 16777216 else if k = 1 then (c : Int) / 65536 % 256 else if k = 2 then (c : Int) / 256 % 256 else (c : Int) % 256)) = fraCells s.size c (k + 1) := by
        rcases hcase with rfl | rfl | rfl | rfl <;> simp [fraCells]
      rw [hbn] at hB'
      have HB' := Lib.hid hB'
      have HCR := Lib.hid hcr
      clear hB' hbn hfr hB hcr
      simp only [fraCells] at hj4 hj5 hj6 hj7
      rcases hcase with rfl | rfl | rfl | rfl
      all_goals
        simp at hj4 hj5 hj6 hj7
        go_wp2_with fail
      · exact ⟨⟨1, by omega, rfl, by simpa using HB'.out, by have := HCR.out; exact cgS⟩, by simp [intOf]⟩
      · exact ⟨⟨2, by omega, rfl, by simpa using HB'.out, by have := HCR.out; exact cgS⟩, by simp [intOf]⟩
      · exact ⟨⟨3, by omega, rfl, by simpa using HB'.out, by have := HCR.out; exact cgS⟩, by simp [intOf]⟩
      · exact ⟨⟨4, by omega, rfl, by simpa using HB'.out, by have := HCR.out; exact cgS⟩, by simp [intOf]⟩
    · obtain rfl : k = 4 := by omega
      have hfr := fun i => hB.frozen i
      have hsz : (⟨(fraHead s.size c).toArray⟩ : ByteArray).size = 8 := rfl
      rw [fraCells_all s.size c h hcl] at hB
      have hcv := run_arr_string ⟨(fraHead s.size c).toArray⟩ hsz hB
      obtain ⟨hd, hhd⟩ : ∃ hd : ByteArray, (⟨(fraHead s.size c).toArray⟩ : ByteArray) = hd := ⟨_, rfl⟩
      rw [hhd] at hcv
      have hds : hd.size ≤ 8 := by rw [← hhd]; exact Nat.le_refl 8
      have HHD := Lib.hid hhd
      have HCR := Lib.hid (HC1.out.own hcr (Nat.le_refl _))
      clear hsz hhd hB hcr
      go_wp2_with fail
      go_ret2
      refine ⟨⟨hd ++ s, ?_, rfl⟩, HCR.out⟩
      rw [← HHD.out]
      unfold fraB
      rw [HC.out]
      simp
end Go.Proofs.YtljabmkmngbhkaaGreatDoor
namespace Go.Proofs.YtljabmkmngbhkaaGreatDoor
open Go.RowKit
set_option linter.unusedVariables false
set_option linter.unusedSimpArgs false

theorem str_some {r : ByteArray} (h : 0 < r.size) : r.toList.isEmpty = false := by
  rw [ByteArray.toList_eq, List.isEmpty_eq_false_iff]
  intro e
  have h2 := congrArg List.length e
  rw [Array.length_toList] at h2
  have h3 : r.size = 0 := h2
  omega
end Go.Proofs.YtljabmkmngbhkaaGreatDoor
namespace Go.Proofs.YtljabmkmngbhkaaGreatDoor
open Go.RowKit
set_option linter.unusedVariables false
set_option linter.unusedSimpArgs false

theorem Blk.new1 (w : World) (o : Obj) (t : TypeId) (cs : Array Value) : Blk ((w.alloc o).alloc (.cells cs t)) (w.heap.size + 1) t cs := by
  have := Blk.new (w.alloc o) t cs
  simpa using this
theorem Blk.new2 (w : World) (o o' : Obj) (t : TypeId) (cs : Array Value) : Blk (((w.alloc o).alloc o').alloc (.cells cs t)) (w.heap.size + 2) t cs := by
  have := Blk.new ((w.alloc o).alloc o') t cs
  simpa using this
structure Codec (α : Type) where
  g : α → List Value
  k : Nat
  e : TypeId
  s : TypeId
  zero : Value
  bytes : Nat
structure Codec.Ok {α : Type} (C : Codec α) : Prop where
  len : ∀ x, (C.g x).length = C.k
  pos : 0 < C.k
  one : ∀ x, ∀ v ∈ C.g x, v.oneCell' = true
  und : Tryz.prog.underlying C.s = some (.slice C.e)
  info : (Tryz.prog.info? C.e).map (fun i => (i.zero, i.size, i.bytes)) = some (some C.zero, C.k, C.bytes)
  zsize : C.zero.cells.size = C.k
  small : C.bytes ≤ 128

/-- The slice value v is the list l. -/
def Lst {α : Type} (C : Codec α) (w : World) (v : Value) (l : List α) : Prop := Own w C.e C.k v l.length (l.flatMap C.g)

section
variable {α : Type} {C : Codec α} {w w' : World} {v : Value} {l : List α}
theorem Lst.nil (C : Codec α) (w : World) : Lst C w (.slice none 0 0) [] := Own.nil _ _ _
theorem Lst.chg {S : Nat → Prop} (h : Lst C w v l) (hc : Chg S w w') (hS : ∀ k, v.ownBlock = some k → ¬ S k) : Lst C w' v l := Own.chg h hc hS
theorem Lst.same (h : Lst C w v l) (hc : Chg (fun _ => False) w w') : Lst C w' v l := Own.same h hc
theorem Lst.typed (h : Lst C w v l) {k : Nat} (hk : v.ownBlock = some k) : ∃ cs, Blk w k C.e cs := Own.typed h hk
theorem Lst.lt (h : Lst C w v l) {k : Nat} (hk : v.ownBlock = some k) : k < w.heap.size := Own.lt h hk
theorem flat_at (hk : ∀ x, (C.g x).length = C.k) (A : List α) (x : α) (B : List α) (j : Nat) (y : Value) (hy : (C.g x)[j]? = some y) : ((A ++ x :: B).flatMap C.g)[A.length * C.k + j]? = some y := by
  have hlen : (A.flatMap C.g).length = A.length * C.k := by
    induction A with
    | nil => simp
    | cons a A ih => simp only [List.flatMap_cons, List.length_append, hk, ih, List.length_cons, Nat.add_mul, Nat.one_mul]; omega
  have hj : j < C.k := by
    have := (List.getElem?_eq_some_iff.1 hy).1
    rwa [hk] at this
  rw [List.flatMap_append, List.getElem?_append_right (by omega), hlen, Nat.add_sub_cancel_left, List.flatMap_cons, List.getElem?_append_left (by rw [hk]; exact hj)]
  exact hy
theorem flat_len (hk : ∀ x, (C.g x).length = C.k) (l : List α) : (l.flatMap C.g).length = l.length * C.k := by
  induction l with
  | nil => simp
  | cons a A ih => simp only [List.flatMap_cons, List.length_append, hk, ih, List.length_cons, Nat.add_mul, Nat.one_mul]; omega
theorem Lst.form (h : Lst C w v l) (hC : C.Ok) : ∃ a cap, v = .slice a l.length cap ∧ l.length ≤ cap ∧ l.length ≤ 9223372036854775807 ∧ ∀ A x B, l = A ++ x :: B → ∃ b, a = some ⟨b, 0, none⟩ ∧ b < w.heap.size ∧ v.ownBlock = some b ∧
    ∀ j y, (C.g x)[j]? = some y → w.cell? ⟨b, A.length * C.k + j, none⟩ = some y := by
  obtain ⟨a, cap, rfl, h1, h2, h3⟩ := Own.reads h
  refine ⟨a, cap, rfl, h1, h2, fun A x B hl => ?_⟩
  obtain ⟨b, rfl, hb, ho, hc⟩ := h3 (by rw [hl]; simp; omega)
  refine ⟨b, rfl, hb, ho, fun j y hy => hc _ _ ?_⟩
  rw [hl]
  exact flat_at hC.len A x B j y hy
/-- The first k of them, cut away from the rest. -/
theorem Lst.cut (h : Lst C w v l) (hC : C.Ok) {k : Nat} (hk : k ≤ l.length) : ∃ a cap, v = .slice a l.length cap ∧ Lst C w (.slice a k k) (l.take k) := by
  obtain ⟨a, cap, rfl, ho⟩ := Own.cut h hk
  refine ⟨a, cap, rfl, ?_⟩
  have e : (l.flatMap C.g).take (k * C.k) = (l.take k).flatMap C.g := by
    conv => lhs; rw [← List.take_append_drop k l, List.flatMap_append]
    rw [List.take_append_of_le_length (by rw [flat_len hC.len, List.length_take]; exact Nat.mul_le_mul_right _ (by omega)), List.take_of_length_le (by rw [flat_len hC.len, List.length_take]; exact Nat.mul_le_mul_right _ (by omega))]
  unfold Lst
  rw [List.length_take, Nat.min_eq_left hk, ← e]
  exact ho
/-- A block known whole that is the list's cells, and nothing else: a composite literal's. -/
theorem Lst.of_block {g : Nat} {cs : Array Value} (hC : C.Ok) (hb : Blk w g C.e cs) (hcs : cs.toList = l.flatMap C.g) (hl : l.length ≤ 1000000) : Lst C w (.slice (some ⟨g, 0, none⟩) l.length l.length) l := by
  refine ⟨flat_len hC.len l, .inr ⟨g, l.length, cs, rfl, hb, Nat.le_refl _, by unfold maxLen; omega, ?_, ?_⟩⟩
  · rw [← Array.length_toList, hcs, flat_len hC.len]; exact Nat.le_refl _
  · rw [hcs, List.take_of_length_le (by rw [flat_len hC.len]; exact Nat.le_refl _)]
theorem chg_grown {row : Option Nat} (h : w.grownBy w' row) : Chg (fun k => row = some k) w w' :=
  ⟨h.os, h.tape, h.output, h.size, fun k hk hn => h.block k hk (fun e => hn e.symm)⟩

section
variable {a : Act} {Q : Exit → Act → World → Prop} {K : Act → World → Prop} {ops : Array Oper} {o : Oper} {rest : List Oper} {E : Prop}
theorem run_lst_app (hC : C.Ok) (W : World) (ty : TypeId) (L : List α) (v : Value) (p : α) (hv : Lst C W v L) (b : Nat) (hb : Blk W b C.e (C.g p).toArray) (hL : L.length ≤ 1000000000) :
    ∃ v' w', (Builtin.append_ #[C.s, C.s] ty #[v, .slice (some ⟨b, 0, none⟩) 1 1]).run Tryz.prog W = .ok v' w' ∧ Lst C w' v' (L ++ [p]) ∧ Chg (fun k => v.ownBlock = some k) W w' ∧ (∀ k, v'.ownBlock = some k → v.ownBlock = some k ∨ W.heap.size ≤ k) := by
  obtain ⟨i0, hi, hz0, hz1, hz2⟩ := info_parts hC.info
  have hs := hC.small
  obtain ⟨v', w', hr, hown, hg, hk⟩ := run_own_append (P := Tryz.prog) W C.s C.s ty C.e i0 C.zero C.k C.bytes hC.und hi hz0 hz1 hz2 hC.zsize v L.length (L.flatMap C.g) hv (.slice (some ⟨b, 0, none⟩) 1 1) 1 (C.g p)
    (Src.ofSlice W hC.und ⟨b, 0, none⟩ 1 1 _ (by rw [hC.len, Nat.one_mul]) (World.news_of_block (cs := (C.g p).toArray) (t := C.e) (fr := (0, 0)) hb) (hC.one p)) (by unfold maxLen; omega) (by
      have : (L.length + 1) * C.bytes ≤ 1000000001 * 128 := Nat.mul_le_mul (by omega) hs
      omega)
  refine ⟨v', w', hr, ?_, chg_grown hg, fun k hk' => ?_⟩
  · unfold Lst
    rw [List.flatMap_append, List.length_append, List.length_singleton]
    simpa using hown
  · rcases hk with e | e
    · exact .inl (by rw [← e]; exact hk')
    · rw [e] at hk'; injection hk' with hk'; right; omega
theorem wp_lst_app (hC : C.Ok) (W : World) (s x : Operand) (ho : o.op = .call { callee := .builtin .append, args := #[s, x], argTypes := #[C.s, C.s] }) (L : List α) (v : Value) (p : α) (hs : a.eval s = v) (hv : Lst C W v L)
    (b : Nat) (hx : a.eval x = .slice (some ⟨b, 0, none⟩) 1 1) (hL : L.length ≤ 1000000000) (hb : Blk W b C.e (C.g p).toArray)
    (h : ∀ v' w', Lst C w' v' (L ++ [p]) → Chg (fun k => v.ownBlock = some k) W w' → (∀ k, v'.ownBlock = some k → v.ownBlock = some k ∨ W.heap.size ≤ k) → K (a.put o.dst v') w') : Oper.wp Tryz.prog o a W K Q := by
  obtain ⟨v', w', hr, h2, h3, h4⟩ := run_lst_app hC W o.type L v p hv b hb hL
  unfold Oper.wp execOp
  simp only [ho, resolve, invoke, builtin, Sem.run_bind, Sem.run_pure, Result.andThen_ok, List.map_toArray, List.map_cons, List.map_nil, hs, hx, hr]
  exact h v' w' h2 h3 h4
/-- append(l, x), x in a new slice of one, outside a region that draws. -/
theorem wpList_lst_app (hC : C.Ok) (W : World) (hgd : o.guard = none) (s x : Operand) (ho : o.op = .call { callee := .builtin .append, args := #[s, x], argTypes := #[C.s, C.s] }) (L : List α) (v : Value) (p : α) (hs : a.eval s = v) (hv : Lst C W v L)
    (b : Nat) (hx : a.eval x = .slice (some ⟨b, 0, none⟩) 1 1) (hL : L.length ≤ 1000000000) (hb : Blk W b C.e (C.g p).toArray)
    (h : ∀ v' w', Lst C w' v' (L ++ [p]) → Chg (fun k => v.ownBlock = some k) W w' → (∀ k, v'.ownBlock = some k → v.ownBlock = some k ∨ W.heap.size ≤ k) → wpList Tryz.prog ops Q rest (a.put o.dst v') w') :
    wpList Tryz.prog ops Q (o :: rest) a W :=
  wpList_plain hgd fun _ hK => wp_lst_app hC _ s x ho L v p hs hv b hx hL hb fun v' w' h2 h3 h4 => hK _ _ (h v' w' h2 h3 h4)
/-- .. at a step of a region that draws its order. -/
theorem step_lst_app (hC : C.Ok) (W : World) (hgd : o.guard = none) (s x : Operand) (ho : o.op = .call { callee := .builtin .append, args := #[s, x], argTypes := #[C.s, C.s] }) (L : List α) (v : Value) (p : α) (hs : a.eval s = v) (hv : Lst C W v L)
    (b : Nat) (hx : a.eval x = .slice (some ⟨b, 0, none⟩) 1 1) (hL : L.length ≤ 1000000000) (hb : Blk W b C.e (C.g p).toArray)
    (h : ∀ v' w', Lst C w' v' (L ++ [p]) → Chg (fun k => v.ownBlock = some k) W w' → (∀ k, v'.ownBlock = some k → v.ownBlock = some k ∨ W.heap.size ≤ k) → K (a.put o.dst v') w') :
    if Region.wanted o (yielded ops a.tmps) = true then Oper.wp Tryz.prog o a W K Q else E := by
  have hw : Region.wanted o (yielded ops a.tmps) = true := by simp [Region.wanted, hgd]
  rw [if_pos hw]
  exact wp_lst_app hC W s x ho L v p hs hv b hx hL hb h
end
end
end Go.Proofs.YtljabmkmngbhkaaGreatDoor
namespace Go.Proofs.YtljabmkmngbhkaaGreatDoor
open Go.RowKit
set_option linter.unusedVariables false
set_option linter.unusedSimpArgs false

def strC : Codec ByteArray := ⟨fun x => [.string x], 1, 9, 152, .string ⟨#[]⟩, 16⟩
theorem strOk : strC.Ok := ⟨fun _ => rfl, by decide, fun x v hv => by simp [strC] at hv; subst hv; rfl, Tryz.underlying152, by kernel_rfl, rfl, by decide⟩
/-- Bytes as lists. -/
def bl (l : List ByteArray) : List (List UInt8) := l.map fun b => b.data.toList
end Go.Proofs.YtljabmkmngbhkaaGreatDoor
namespace Go.Proofs.YtljabmkmngbhkaaGreatDoor
open Go.RowKit Go.Shelf
set_option linter.unusedVariables false
set_option linter.unusedSimpArgs false

theorem rep_extra : Builder.Extra Tryz.prog Tryz.strRep_ren where
  sizeBuilder := by kernel_rfl
  liesBuilder := by kernel_rfl
  t5 := Tryz.strRep.t5
  a5 := Tryz.strRep.a5
  z5 := Tryz.strRep.z5
  v5 := Tryz.strRep.v5
  infoByte := by kernel_rfl
  cellsByte := by kernel_rfl
  sizeByte := by kernel_rfl
  neB5 := by decide
theorem ren_trim : Tryz.strTrim_ren.f 160 = 283 := by kernel_rfl
theorem ren_fmt : Tryz.fmtInt_ren.f 173 = 284 := by kernel_rfl
theorem ren_rep : Tryz.strRep_ren.f 105 = 285 := by kernel_rfl
def letters : ByteArray := ⟨#[97, 98, 99, 100, 101, 102, 103, 104, 105, 106, 107, 108, 109, 110, 111, 112, 113, 114, 115, 116, 117, 118, 119, 120, 121, 122]⟩
theorem str_trim (s : ByteArray) (w : World) (hs : s.size ≤ 1000000000) : Calls Tryz.prog 283 #[.string s, .string letters] w fun e w' => e = .returned (.string ⟨(Lib.trimS s.data.toList letters.data.toList).toArray⟩) ∧ Chg (fun _ => False) w w' := by
  have h := Any.strings_Trim_laid Tryz.strTrim (by kernel_rfl) s letters w (by omega) (by decide) (ascii_of_all (by decide))
  rw [ren_trim] at h
  exact h.mono fun e w' ⟨he, hb⟩ => ⟨he, Chg.of_below hb⟩
theorem fmt_small (i : Nat) (hi : i < 100) (w : World) : Calls Tryz.prog 284 #[.int .i64 (i : Int), .int .i64 10] w fun e w' => e = .returned (.string ⟨(Lib.decDigits i).toArray⟩) ∧ w = w' := by
  have h := Any.strconv_FormatInt_10_small Tryz.fmtInt i hi w
  rw [ren_fmt] at h
  exact h.mono fun e w' ⟨he, hw⟩ => ⟨he, hw.symm⟩
theorem str_rep (s : ByteArray) (c : Nat) (w : World) (hlen : s.size * c ≤ 140737488355328) (hc : c ≤ 9223372036854775807) : Calls Tryz.prog 285 #[.string s, .int .i64 (c : Int)] w fun e w' => e = .returned (.string ⟨(Lib.repeatL s.data.toList c).toArray⟩) ∧ Chg (fun _ => False) w w' := by
  have h := Any.strings_Repeat Tryz.strRep rep_extra s c w hc hlen
  rw [ren_rep] at h
  exact h.mono fun e w' ⟨he, hb⟩ => ⟨he, Chg.of_below hb⟩
/-- log-0000000n. -/
def logN (n : Nat) : ByteArray := ⟨#[108, 111, 103, 45, 48, 48, 48, 48, 48, 48, 48, u8 (48 + n)]⟩
theorem digits_one (n : Nat) (h : n < 10) : Lib.decDigits n = [u8 (48 + n)] := Lib.decDigits_one h
theorem wal_name (n : Nat) (hn : n < 10) (w : World) : Calls Tryz.prog 167 #[.int .i64 (n : Int)] w fun e w' => e = .returned (.string (logN n)) ∧ Chg (fun _ => False) w w' := by
  have h1 := fun w => str_trim ⟨#[108, 111, 103]⟩ w (by decide)
  have e1 : Lib.trimS (⟨#[108, 111, 103]⟩ : ByteArray).data.toList letters.data.toList = [] := by decide
  rw [e1] at h1
  have h2 := fun w => fmt_small n (by omega) w
  rw [digits_one n hn] at h2
  have h3 := fun w => str_rep ⟨#[48]⟩ 7 w (by decide) (by decide)
  have e3 : Lib.repeatL (⟨#[48]⟩ : ByteArray).data.toList 7 = [48, 48, 48, 48, 48, 48, 48] := by decide
  rw [e3] at h3
  have H1 := Lib.hid h1
  have H2 := Lib.hid h2
  have H3 := Lib.hid h3
  clear h1 h2 h3 e1 e3
  have file : ∀ w, Calls Tryz.prog 208 #[.string ⟨#[108, 111, 103]⟩, .int .i64 (n : Int)] w fun e w' => e = .returned (.string (logN n)) ∧ Chg (fun _ => False) w w' := fun w => by
    go_enter Tryz.func208, Tryz.ntmps208
    go_wp2_with fail
    refine (H1.out _).mono ?_
    rintro e w1 ⟨rfl, hc1⟩
    have HC1 := Lib.hid hc1
    clear hc1
    go_wp2_with fail
    refine (H2.out _).mono ?_
    rintro e w2 ⟨rfl, rfl⟩
    go_wp2_with fail
    refine (H3.out _).mono ?_
    rintro e w2 ⟨rfl, hc2⟩
    have HC2 := Lib.hid (HC1.out.then hc2)
    clear hc2
    go_wp2_with fail
    go_ret
    exact ⟨rfl, HC2.out⟩
  have HF := Lib.hid file
  clear file
  go_enter Tryz.func167, Tryz.ntmps167
  go_wp2_with fail
  refine (HF.out _).mono ?_
  rintro e w1 ⟨rfl, hc1⟩
  go_wp2_with fail
  go_ret
  exact ⟨rfl, hc1⟩
end Go.Proofs.YtljabmkmngbhkaaGreatDoor
namespace Go.Proofs.YtljabmkmngbhkaaGreatDoor
open Go.RowKit
set_option linter.unusedVariables false
set_option linter.unusedSimpArgs false

end Go.Proofs.YtljabmkmngbhkaaGreatDoor
namespace Go.Proofs.YtljabmkmngbhkaaGreatDoor
open Go.RowKit
set_option linter.unusedVariables false
set_option linter.unusedSimpArgs false

/-- A disk at d whose blocks are all new since w0; nothing older has changed. -/
def DState (w0 w : World) (d : Nat) (D : DiskV) : Prop := ∃ ids M, DiskAt w d ids D M ∧ (∀ k, M k → w0.heap.size ≤ k) ∧ Chg (fun _ => False) w0 w
section
variable {w0 w w' : World} {d : Nat} {ids : List Nat} {D D' : DiskV} {M : Nat → Prop}
theorem DState.same (h : DState w0 w d D) (hc : Chg (fun _ => False) w w') : DState w0 w' d D := by
  obtain ⟨ids, M, ha, hM, hc0⟩ := h
  exact ⟨ids, M, ha.same hc, hM, hc0.then hc⟩
theorem DState.frame (h : DState w0 w d D) : Chg (fun _ => False) w0 w := h.choose_spec.choose_spec.2.2
theorem DState.ok (h : DState w0 w d D) : DiskOk D := h.choose_spec.choose_spec.1.1
end
/-- Bounds that a disk in a law keeps well below. -/
structure DSmall (D : DiskV) : Prop where
  q : D.queue.length ≤ 999999990
  f : D.files.length ≤ 999999990
  n : D.names.length ≤ 1000000

section
variable (w0 : World) (d : Nat) (D : DiskV) (n : ByteArray) (hn : n.size ≤ maxLen) (hD : DSmall D) (w : World) (h : DState w0 w d D)
include hn hD h
end
theorem st_new (room : Int) (hr : room ≤ 9223372036854775807) (w : World) : Calls Tryz.prog 5 #[.int .i64 room] w fun e w' => e = .returned (.pointer (some ⟨w.heap.size + 2, 0, none⟩)) ∧ DState w w' (w.heap.size + 2) (startD room) :=
  (disk_new room hr w).mono fun e w' ⟨he, ha, hc, _⟩ => ⟨he, [], _, ha, fun k hk => hk.1, hc⟩
/-! ### wakes -/
def sA : ByteArray := ⟨#[97]⟩
end Go.Proofs.YtljabmkmngbhkaaGreatDoor
namespace Go.Proofs.YtljabmkmngbhkaaGreatDoor
open Go.RowKit
set_option linter.unusedVariables false
set_option linter.unusedSimpArgs false

set_option maxRecDepth 100000 in
set_option maxHeartbeats 4000000 in
theorem disk_remove (d : Nat) (ids : List Nat) (D : DiskV) (M : Nat → Prop) (a : ByteArray) (hn : a.size ≤ maxLen) (hq : D.queue.length ≤ 999999990) (w : World) (h : DiskAt w d ids D M) :
    Calls Tryz.prog 126 #[.pointer (some ⟨d, 0, none⟩), .string a] w fun e w' => e = .returned (.int .i64 (removeD D a).1) ∧ DPost w d ids M (removeD D a).2 w' := by
  have hlt := h.lt
  have hdl := h.d_lt
  have H := Lib.hid h
  have HLT := Lib.hid hlt
  unfold removeD
  obtain ⟨W1, hW1⟩ : ∃ W1, W1 = (w.alloc (.cells #[.pointer (some ⟨d, 0, none⟩)] 36)).alloc (.cells #[.string a] 9) := ⟨_, rfl⟩
  have hc1 : Chg (fun _ => False) w W1 := by rw [hW1]; exact cgS
  have hbd : Blk W1 w.heap.size 36 #[.pointer (some ⟨d, 0, none⟩)] := by rw [hW1]; exact (Blk.new w _ _).alloc _
  have hba : Blk W1 (w.heap.size + 1) 9 #[.string a] := by
    rw [hW1]
    have := Blk.new (w.alloc (.cells #[.pointer (some ⟨d, 0, none⟩)] 36)) 9 #[.string a]
    simpa using this
  have hs1 : W1.heap.size = w.heap.size + 2 := by rw [hW1]; simp
  have h1 := h.same hc1
  have hfind := disk_find d ids D M a hn W1 h1
  unfold findV at hfind
  have b0 := hbd.cell 0
  have b1 := hba.cell 0
  simp at b0 b1
  have HW1 := Lib.hid hW1
  have HC1 := Lib.hid hc1
  have HBD := Lib.hid hbd
  have HBA := Lib.hid hba
  have H1 := Lib.hid h1
  have HS1 := Lib.hid hs1
  have hpost : ∀ W, Chg (fun _ => False) w W → DPost w d ids M D W := fun W hW => DPost.same (H.out.same hW) HLT.out (hW.mono (by simp))
  have HP0 := Lib.hid hpost
  clear hW1 hc1 hbd hba h1 hs1 hpost hlt
  cases ho : D.off with
  | true =>
    rw [ho] at hfind
    have HFI := Lib.hid hfind
    clear hfind ho h
    go_enter Tryz.func126, Tryz.ntmps126
    go_wp2_with fail
    rw [← HW1.out]
    refine HFI.out.mono ?_
    rintro e w' ⟨rfl, rfl⟩
    go_wp2_with fail
    go_ret
    exact ⟨rfl, HP0.out _ (HC1.out.then cgS)⟩
  | false =>
    rw [ho] at hfind
    cases hk : look D.names a with
    | none =>
      rw [hk] at hfind
      have HFI := Lib.hid hfind
      clear hfind ho h hk
      go_enter Tryz.func126, Tryz.ntmps126
      go_wp2_with fail
      rw [← HW1.out]
      refine HFI.out.mono ?_
      rintro e w' ⟨rfl, rfl⟩
      go_wp2_with fail
      go_ret
      exact ⟨rfl, HP0.out _ (HC1.out.then cgS)⟩
    | some i =>
      rw [hk] at hfind
      have ha64 := h.1.names.sz _ (look_some hk)
      have hs1 := HS1.out
      have hch := disk_change d ids D M true 206 #[.pointer (some ⟨w.heap.size, 0, none⟩), .pointer (some ⟨w.heap.size + 1, 0, none⟩)] (removeA a) W1 H1.out (by unfold removeA rename1 trapped; simp; omega) (by omega) (enters _ _ (by kernel_rfl))
        (fun W y' hy hW => act_remove d w.heap.size (w.heap.size + 1) a ids (trapped D) y' M W (trapped_ok h.1) (by show D.queue.length ≤ _; omega) ha64 hy (HBD.out.chg hW (by omega)) (HBA.out.chg hW (by omega)))
      have hl2 : w.heap.size + 1 < W1.heap.size := HBA.out.lt
      unfold fptr at hfind
      simp only at hfind
      generalize ids.getD i 0 = q at hfind
      have HFI := Lib.hid hfind
      have HCH := Lib.hid hch
      clear hfind ho h hk ha64 hch hs1
      go_enter Tryz.func126, Tryz.ntmps126
      go_wp2_with fail
      rw [← HW1.out]
      refine HFI.out.mono ?_
      rintro e w' ⟨rfl, rfl⟩
      go_wp2_with fail
      refine HCH.out.mono ?_
      rintro e w3 ⟨rfl, hp⟩
      have HP := Lib.hid hp
      clear hp
      go_wp2_with fail
      go_ret
      exact ⟨rfl, HP.out.first HLT.out (HC1.out.mono (by simp))⟩

end Go.Proofs.YtljabmkmngbhkaaGreatDoor
