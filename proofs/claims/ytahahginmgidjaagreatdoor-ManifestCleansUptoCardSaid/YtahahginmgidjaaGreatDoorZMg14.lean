/-
  The library's sorts at a list in a block of its own: slices.Sort at []int64, slices.SortFunc at tables, by the two closures of a version's sort.
  The program's version: Files; a level's order (sort).
  The program's manifest: the library's Contains, the disk's List, what is needed.
-/
import Derived.Test.YtahahginmgidjaaGreatDoorLay
import Derived.Test.YtahahginmgidjaaGreatDoorZMg13
import Derived.Test.YtahahginmgidjaaGreatDoorZMg12
namespace Go.Proofs.YtahahginmgidjaaGreatDoor
open Go.RowKit Go.Sort
set_option linter.unusedVariables false
set_option linter.unusedSimpArgs false

/-! ### What the library's words for a sorted row say of a list -/
theorem putRow_blk {enc : Value → Value} {w : World} {g : Nat} {t : TypeId} {cs : Array Value} (hb : Blk w g t cs) (F : Array Value) (hF : F.size ≤ cs.size) (n : Nat) (os : Array Obj) :
    ∃ cs', Blk (grow (putRow id (Go.Sort.ahead w n) g 0 F) os) g t cs' ∧ cs'.size = cs.size ∧ cs'.toList.take F.size = F.toList := by
  refine ⟨putCells id 0 F cs, ?_, by simp [putCells], ?_⟩
  · have hlt := hb.lt
    have hb' : w.heap[g]? = some (.cells cs t (0, 0)) := hb
    have h1 : (mapBlock (Go.Sort.ahead w n) g (putCells id 0 F)).heap[g]? = some (.cells (putCells id 0 F cs) t (0, 0)) := by
      unfold mapBlock
      show (w.heap.modify g _)[g]? = _
      rw [Array.getElem?_modify, if_pos rfl, hb']
      rfl
    show ((mapBlock (Go.Sort.ahead w n) g (putCells id 0 F)).heap ++ os)[g]? = _
    rw [Array.getElem?_append_left (by
      have := (Array.getElem?_eq_some_iff.1 h1).1
      exact this), h1]
  · apply List.ext_getElem?
    intro i
    rw [List.getElem?_take]
    by_cases hi : i < F.size
    · rw [if_pos hi, Array.getElem?_toList, Array.getElem?_toList]
      unfold putCells
      rw [Array.getElem?_mapIdx, Array.getElem?_eq_getElem (by omega : i < cs.size), Array.getElem?_eq_getElem hi]
      simp [hi]
    · rw [if_neg hi, Array.getElem?_toList, Array.getElem?_eq_none (by omega)]
theorem putRow_chg {enc : Value → Value} (w : World) (g : Nat) (F : Array Value) (n : Nat) (os : Array Obj) : Chg (fun k => k = g) w (grow (putRow id (Go.Sort.ahead w n) g 0 F) os) := by
  refine ⟨rfl, rfl, rfl, ?_, fun k hk hn => ?_⟩
  · show w.heap.size ≤ ((w.heap.modify g _) ++ os).size
    simp
  · show ((w.heap.modify g _) ++ os)[k]? = _
    rw [Array.getElem?_append_left (by simpa using hk), Array.getElem?_modify, if_neg (fun e => hn e.symm)]
section
variable {α : Type} [Inhabited α] {C : Codec α}
theorem flatK_flat (hC : C.Ok) (d : Array α) : (flatK C.g C.k d).toList = d.toList.flatMap C.g := by
  apply List.ext_getElem?
  intro t
  by_cases ht : t < d.size * C.k
  · have hk := hC.pos
    have hq : t / C.k < d.size := Nat.div_lt_of_lt_mul (by rw [Nat.mul_comm]; exact ht)
    have hr : t % C.k < C.k := Nat.mod_lt _ hk
    have hd : d.toList = d.toList.take (t / C.k) ++ d.toList[t / C.k]'(by simpa using hq) :: d.toList.drop (t / C.k + 1) := by rw [← List.drop_eq_getElem_cons (by simpa using hq), List.take_append_drop]
    have hl : (d.toList.take (t / C.k)).length = t / C.k := by simp; omega
    have := flat_at hC.len (d.toList.take (t / C.k)) (d.toList[t / C.k]'(by simpa using hq)) (d.toList.drop (t / C.k + 1)) (t % C.k) ((C.g (d.toList[t / C.k]'(by simpa using hq)))[t % C.k]'(by rw [hC.len]; exact hr)) (by rw [List.getElem?_eq_getElem])
    rw [← hd, hl, Nat.div_add_mod' t C.k] at this
    rw [this, Array.getElem?_toList, Array.getElem?_eq_getElem (by rw [size_flatK]; exact ht)]
    have hg := get_flatK C.g C.k d t ht
    rw [getElem!_pos _ t (by rw [size_flatK]; exact ht)] at hg
    rw [hg, getElem!_pos d _ hq, getElem!_pos _ _ (by rw [hC.len]; exact hr)]
    simp
  · rw [List.getElem?_eq_none (by rw [Array.length_toList, size_flatK]; omega), List.getElem?_eq_none (by rw [flat_len hC.len, Array.length_toList]; omega)]
theorem holdsK_of {w : World} {v : Value} {l : List α} (hC : C.Ok) (h : Lst C w v l) {g : Nat} (hg : v.ownBlock = some g) : HoldsK C.g C.k w g 0 l.toArray := by
  have hfl := flatK_flat hC l.toArray
  intro j hj
  rw [size_flatK] at hj
  obtain ⟨a, cap, rfl, _, _, h3⟩ := Own.reads h
  have hn : 0 < l.length := by
    rcases Nat.eq_zero_or_pos l.length with h0 | h0
    · simp [h0] at hj
    · exact h0
  obtain ⟨b, rfl, hb, ho, hc⟩ := h3 hn
  rw [hg] at ho
  cases ho
  rw [Nat.zero_add]
  refine ⟨hc j _ ?_, Own.frozen h hg j⟩
  rw [← show (l.toArray).toList = l from rfl, ← hfl, Array.getElem?_toList, Array.getElem?_eq_getElem (by rw [size_flatK]; exact hj), getElem!_pos _ j (by rw [size_flatK]; exact hj)]
  rfl
theorem sortWorldK_lst {w : World} {v : Value} {l : List α} (hC : C.Ok) (h : Lst C w v l) {g : Nat} (hg : v.ownBlock = some g) (n : Nat) (d' : Array α) (hd : d'.size = l.length) (os : Array Obj) :
    Lst C (sortWorldK C.g C.k w g 0 n d' os) v d'.toList ∧ Chg (fun k => v.ownBlock = some k) w (sortWorldK C.g C.k w g 0 n d' os) := by
  have hfl := flatK_flat hC d'
  constructor
  · obtain ⟨hl, hr⟩ := h
    rcases hr with ⟨rfl, _⟩ | ⟨g', cap, cur, rfl, hb, hn, hm, hcs, ht⟩
    · simp [Value.ownBlock] at hg
    · simp [Value.ownBlock] at hg
      subst hg
      have hle : l.length * C.k ≤ cap * C.k := Nat.mul_le_mul_right _ hn
      obtain ⟨cs', hb', hsz, htk⟩ := putRow_blk (enc := id) (show Blk w g' C.e cur from hb) (flatK C.g C.k d') (by rw [size_flatK, hd]; omega) n os
      have hdl : d'.toList.length = l.length := by rw [Array.length_toList]; exact hd
      refine ⟨flat_len hC.len _, .inr ⟨g', cap, cs', by rw [hdl], hb', by rw [hdl]; exact hn, hm, by rw [hsz]; exact hcs, ?_⟩⟩
      rw [← hfl, ← htk, size_flatK, Array.length_toList]
  · exact (putRow_chg (enc := id) w g _ n os).mono fun k _ hk => by rw [hk]; exact hg
theorem perm_of_permIn {l : List α} {d' : Array α} (h : PermIn 0 l.toArray.size l.toArray d') : d'.size = l.length ∧ d'.toList.Perm l := by
  obtain ⟨h1, _, h3⟩ := h
  have h1' : d'.size = l.length := by simpa using h1
  refine ⟨h1', ?_⟩
  have e1 : d'.extract 0 l.toArray.size = d' := by
    rw [show l.toArray.size = d'.size from h1.symm]; simp
  have e2 : l.toArray.extract 0 l.toArray.size = l.toArray := by simp
  rw [e1, e2] at h3
  exact h3
theorem sorted_of {f : α → α → Bool} {d' : Array α} (h : SortedIn f 0 d'.size d') : Sorted f d'.toList := by
  unfold Sorted
  rw [List.pairwise_iff_getElem]
  intro i j hi hj hij
  simp only [Array.length_toList] at hi hj
  have := h i j (Nat.zero_le _) hij hj
  rw [getElem!_pos _ i hi, getElem!_pos _ j hj] at this
  simpa using this
end

/-! ### The closures -/
instance : Inhabited MetaV := ⟨⟨0, 0, ⟨#[]⟩, ⟨#[]⟩⟩⟩
def cf0 (a b : MetaV) : Int := Lib.compareInt b.file a.file
def cf1 (a b : MetaV) : Int := Lib.compareBytes a.lo.data.toList b.lo.data.toList
theorem lt0 (a b : MetaV) : ltOf cf0 a b = before 0 a b := by
  unfold ltOf cf0 before Lib.compareInt
  by_cases h1 : b.file < a.file
  · simp [h1]
  · by_cases h2 : b.file > a.file <;> simp [h1, h2]
theorem compareBytes_lt : ∀ (a b : List UInt8), (Lib.compareBytes a b < 0) ↔ Op.bytesLess a b = true
  | [], [] => by simp [Lib.compareBytes, Op.bytesLess]
  | [], _ :: _ => by simp [Lib.compareBytes, Op.bytesLess]
  | _ :: _, [] => by simp [Lib.compareBytes, Op.bytesLess]
  | x :: a, y :: b => by
    have ih := compareBytes_lt a b
    simp only [Lib.compareBytes, Op.bytesLess]
    by_cases h1 : x < y
    · simp [h1]
    · by_cases h2 : y < x
      · have : ¬ x = y := fun e => by subst e; exact h1 h2
        simp [h1, h2, this]
      · have : x = y := by
          have h1' : ¬ x.toNat < y.toNat := h1
          have h2' : ¬ y.toNat < x.toNat := h2
          exact UInt8.toNat_inj.1 (by omega)
        simp [h1, h2, this, ih]
theorem lt1 (a b : MetaV) : ltOf cf1 a b = before 1 a b := by
  unfold ltOf cf1 before
  rw [if_neg (by decide)]
  unfold sl
  rw [ByteArray.toList_eq, ByteArray.toList_eq]
  rw [Bool.eq_iff_iff, decide_eq_true_iff, compareBytes_lt]
theorem swoB (i : Nat) {f : MetaV → MetaV → Bool} (h : ∀ a b, f a b = before i a b) : SWO f where
  irrefl x := by rw [h]; exact before_irrefl i x
  trans x y z h1 h2 := by rw [h] at *; exact before_trans i x y z h1 h2
  ntrans x y z h1 h2 := by rw [h] at *; exact before_ntrans i x y z h1 h2

set_option maxRecDepth 100000 in
set_option maxHeartbeats 1000000 in
theorem sort1_any (x y : MetaV) (W : World) : Calls Tryz.prog 138 #[.agg #[.int .i64 x.file, .int .i64 x.size, .string x.lo, .string x.hi], .agg #[.int .i64 y.file, .int .i64 y.size, .string y.lo, .string y.hi]] W fun e w' => e = .returned (.int .i64 (cf0 x y)) ∧ ∃ q os', w' = grow (W.drewN q) os' := by
  have hcon := fun W' => AnyG.cmp_Compare_int Tryz.cmp64 y.file x.file W'
  change ∀ W', Calls Tryz.prog 139 _ _ _ at hcon
  unfold cf0
  generalize Lib.compareInt y.file x.file = r at hcon ⊢
  go_enter Tryz.func138, Tryz.ntmps138
  go_wp2_with (go_at_call 139; refine (hcon _).mono ?_; rintro e w' ⟨rfl, rfl⟩)
  go_ret
  exact ⟨rfl, 0, _, by rw [alloc_eq_grow, alloc_eq_grow, grow_grow]; rfl⟩
set_option maxRecDepth 100000 in
set_option maxHeartbeats 1000000 in
theorem sort2_any (x y : MetaV) (W : World) : Calls Tryz.prog 140 #[.agg #[.int .i64 x.file, .int .i64 x.size, .string x.lo, .string x.hi], .agg #[.int .i64 y.file, .int .i64 y.size, .string y.lo, .string y.hi]] W fun e w' => e = .returned (.int .i64 (cf1 x y)) ∧ ∃ q os', w' = grow (W.drewN q) os' := by
  have hcon := fun W' => Any.strings_Compare Tryz.strCmp x.lo y.lo W'
  change ∀ W', Calls Tryz.prog 141 _ _ _ at hcon
  unfold cf1
  generalize Lib.compareBytes x.lo.data.toList y.lo.data.toList = r at hcon ⊢
  go_enter Tryz.func140, Tryz.ntmps140
  go_wp2_with (go_at_call 141; refine (hcon _).mono ?_; rintro e w' ⟨rfl, rfl⟩)
  go_ret
  exact ⟨rfl, 0, _, by rw [alloc_eq_grow, alloc_eq_grow, grow_grow]; rfl⟩

/-! ### The sorts -/
/-- A level is sorted. -/
def SortPost (w : World) (i : Nat) (v : Value) (l : List MetaV) (e : Ending) (w' : World) : Prop :=
  e = .returned (.tuple #[]) ∧ ∃ l', Lst metaC w' v l' ∧ l'.Perm l ∧ Sorted (before i) l' ∧ Chg (fun k => v.ownBlock = some k) w w'
theorem sort_nil (fv : Value) (w : World) (i : Nat) : Calls Tryz.prog 137 #[.slice none 0 0, fv] w (SortPost w i (.slice none 0 0) []) := by
  have h := AnyF.slices_SortFunc_none { Tryz.sortM with } none 0 fv w
  change Calls Tryz.prog 137 _ _ _ at h
  exact h.mono fun e w' ⟨he, hw⟩ => by subst hw; exact ⟨he, [], Lst.nil _ _, List.Perm.refl _, by simp [Sorted], Chg.refl _ _⟩
theorem sort_level0 (v : Value) (l : List MetaV) (hl : l.length ≤ 1000000000) (w : World) (h : Lst metaC w v l) : Calls Tryz.prog 137 #[v, .func (.func 138) #[] #[]] w (SortPost w 0 v l) := by
  by_cases hn : v.ownBlock = none
  · rcases h.2 with ⟨rfl, h0⟩ | ⟨g, cap, cur, rfl, _⟩
    · obtain rfl := List.eq_nil_of_length_eq_zero h0
      exact sort_nil _ w 0
    · simp [Value.ownBlock] at hn
  · obtain ⟨g, hg⟩ := Option.ne_none_iff_exists'.1 hn
    obtain ⟨a, cap, rfl, _, _, h3⟩ := Own.form h
    have hH := holdsK_of metaOk h hg
    have hlt := h.lt hg
    have ha : a = some ⟨g, 0, none⟩ := by
      cases a with
      | none => simp [Value.ownBlock] at hg
      | some x =>
        obtain ⟨h4, h5, h6⟩ := h3.2 x rfl
        rw [hg] at h6
        obtain ⟨b, o, s⟩ := x
        simp at h4 h5 h6
        subst h4 h5 h6
        rfl
    subst ha
    have hcon := AnyQ.slices_SortFunc Tryz.sortM 4 (fun w => by kernel_rfl) (fun w => by kernel_rfl) mrow (fun _ => rfl) (fun x u hu => by simp [mrow] at hu; rcases hu with rfl | rfl | rfl | rfl <;> rfl) cf0 (swoB 0 lt0) 138 #[] g 0 cap l.toArray w (enters_of Tryz.func138 (by kernel_rfl) rfl)
      (fun _ _ _ _ x y => sort1_any x y _) hH hlt (by simp; omega)
    change Calls Tryz.prog 137 _ _ _ at hcon
    refine hcon.mono fun e w' ⟨he, d', n, os, hp, hs, hw⟩ => ?_
    subst hw
    obtain ⟨hd, hp⟩ := perm_of_permIn hp
    obtain ⟨h7, h8⟩ := sortWorldK_lst metaOk h hg n d' hd os
    refine ⟨he, d'.toList, h7, hp, ?_, h8⟩
    have := sorted_of (f := ltOf cf0) (d' := d') (by rw [hd]; simpa using hs)
    exact this.imp fun {a b} h => by rw [← lt0]; exact h
theorem sort_level (i : Nat) (hi : i ≠ 0) (v : Value) (l : List MetaV) (hl : l.length ≤ 1000000000) (w : World) (h : Lst metaC w v l) : Calls Tryz.prog 137 #[v, .func (.func 140) #[] #[]] w (SortPost w i v l) := by
  by_cases hn : v.ownBlock = none
  · rcases h.2 with ⟨rfl, h0⟩ | ⟨g, cap, cur, rfl, _⟩
    · obtain rfl := List.eq_nil_of_length_eq_zero h0
      exact sort_nil _ w i
    · simp [Value.ownBlock] at hn
  · obtain ⟨g, hg⟩ := Option.ne_none_iff_exists'.1 hn
    obtain ⟨a, cap, rfl, _, _, h3⟩ := Own.form h
    have hH := holdsK_of metaOk h hg
    have hlt := h.lt hg
    have ha : a = some ⟨g, 0, none⟩ := by
      cases a with
      | none => simp [Value.ownBlock] at hg
      | some x =>
        obtain ⟨h4, h5, h6⟩ := h3.2 x rfl
        rw [hg] at h6
        obtain ⟨b, o, s⟩ := x
        simp at h4 h5 h6
        subst h4 h5 h6
        rfl
    subst ha
    have hcon := AnyQ.slices_SortFunc Tryz.sortM 4 (fun w => by kernel_rfl) (fun w => by kernel_rfl) mrow (fun _ => rfl) (fun x u hu => by simp [mrow] at hu; rcases hu with rfl | rfl | rfl | rfl <;> rfl) cf1 (swoB 1 lt1) 140 #[] g 0 cap l.toArray w (enters_of Tryz.func140 (by kernel_rfl) rfl)
      (fun _ _ _ _ x y => sort2_any x y _) hH hlt (by simp; omega)
    change Calls Tryz.prog 137 _ _ _ at hcon
    refine hcon.mono fun e w' ⟨he, d', n, os, hp, hs, hw⟩ => ?_
    subst hw
    obtain ⟨hd, hp⟩ := perm_of_permIn hp
    obtain ⟨h7, h8⟩ := sortWorldK_lst metaOk h hg n d' hd os
    refine ⟨he, d'.toList, h7, hp, ?_, h8⟩
    have := sorted_of (f := ltOf cf1) (d' := d') (by rw [hd]; simpa using hs)
    exact this.imp fun {a b} h => by
      have h2 := (lt1 b a).symm.trans h
      unfold before at h2 ⊢
      rw [if_neg (by decide)] at h2
      rw [if_neg hi]
      exact h2
/-- slices.Sort at []int64. -/
def SortIPost (w : World) (v : Value) (l : List Int) (e : Ending) (w' : World) : Prop :=
  e = .returned (.tuple #[]) ∧ Lst i64C w' v (l.mergeSort fun x y => decide (x ≤ y)) ∧ Chg (fun k => v.ownBlock = some k) w w'
theorem sort_ints (v : Value) (l : List Int) (hl : l.length ≤ 1000000000) (w : World) (h : Lst i64C w v l) : Calls Tryz.prog 136 #[v] w (SortIPost w v l) := by
  by_cases hn : v.ownBlock = none
  · rcases h.2 with ⟨rfl, h0⟩ | ⟨g, cap, cur, rfl, _⟩
    · obtain rfl := List.eq_nil_of_length_eq_zero h0
      have h := AnyM.slices_Sort_int_none { Tryz.sort64 with } none 0 w
      change Calls Tryz.prog 136 _ _ _ at h
      exact h.mono fun e w' ⟨he, hw⟩ => by subst hw; exact ⟨he, by rw [List.mergeSort_nil]; exact Lst.nil _ _, Chg.refl _ _⟩
    · simp [Value.ownBlock] at hn
  · obtain ⟨g, hg⟩ := Option.ne_none_iff_exists'.1 hn
    obtain ⟨a, cap, rfl, _, _, h3⟩ := Own.form h
    have hlt := h.lt hg
    have ha : a = some ⟨g, 0, none⟩ := by
      cases a with
      | none => simp [Value.ownBlock] at hg
      | some x =>
        obtain ⟨h4, h5, h6⟩ := h3.2 x rfl
        rw [hg] at h6
        obtain ⟨b, o, s⟩ := x
        simp at h4 h5 h6
        subst h4 h5 h6
        rfl
    subst ha
    have hH : Holds (Value.int .i64) w g 0 l.toArray := by
      have := holdsK_of i64Ok h hg
      intro j hj
      have hj' : j < l.length := by simpa using hj
      have h1 := this j (by rw [size_flatK]; show j < l.toArray.size * 1; simpa using hj)
      have e : (flatK i64C.g i64C.k l.toArray)[j]! = Value.int .i64 l.toArray[j]! := by
        rw [get_flatK _ _ _ j (by show j < l.toArray.size * 1; simpa using hj)]
        show ([Value.int .i64 (l.toArray[j / 1]!)] : List Value)[j % 1]! = _
        rw [Nat.div_one, Nat.mod_one]; rfl
      rw [e] at h1
      exact h1
    have hcon := AnyM.slices_Sort_int Tryz.sort64 g 0 cap l w hH hlt (by omega)
    change Calls Tryz.prog 136 _ _ _ at hcon
    refine hcon.mono fun e w' ⟨he, n, os, hw⟩ => ?_
    subst hw
    have hlen : (l.mergeSort fun x y => decide (x ≤ y)).length = l.length := List.length_mergeSort _
    have e1 : putRow (Value.int .i64) (Go.Sort.ahead w n) g 0 (l.mergeSort fun x y => decide (x ≤ y)).toArray = putRow id (Go.Sort.ahead w n) g 0 (flatK i64C.g i64C.k (l.mergeSort fun x y => decide (x ≤ y)).toArray) := by
      generalize (l.mergeSort fun x y => decide (x ≤ y)).toArray = M
      have e2 : flatK i64C.g i64C.k M = M.map (Value.int .i64) := by
        apply Array.ext
        · rw [size_flatK, Array.size_map]; exact Nat.mul_one _
        · intro i h1 h2
          have hi : i < M.size := by simpa using h2
          have hg := get_flatK i64C.g i64C.k M i (by show i < M.size * 1; omega)
          rw [getElem!_pos _ i h1] at hg
          rw [hg, Array.getElem_map]
          show ([Value.int .i64 (M[i / 1]!)] : List Value)[i % 1]! = _
          rw [Nat.div_one, Nat.mod_one, getElem!_pos M i hi]
          rfl
      rw [e2]
      unfold putRow
      congr 1
      funext c
      unfold putCells
      apply Array.ext
      · simp
      · intro i h1 h2
        simp only [Array.getElem_mapIdx, Nat.zero_add, Nat.zero_le, true_and, Array.size_map, Nat.sub_zero, id]
        by_cases hi : i < M.size
        · rw [if_pos hi, if_pos hi, getElem!_pos M i hi, getElem!_pos _ i (by simpa using hi), Array.getElem_map]
        · rw [if_neg hi, if_neg hi]
    rw [e1]
    obtain ⟨h7, h8⟩ := sortWorldK_lst i64Ok h hg n (l.mergeSort fun x y => decide (x ≤ y)).toArray (by simp) os
    exact ⟨he, h7, h8⟩
theorem merge_perm (l : List Int) : (l.mergeSort fun x y => decide (x ≤ y)).Perm l := List.mergeSort_perm _ _
end Go.Proofs.YtahahginmgidjaaGreatDoor
namespace Go.Proofs.YtahahginmgidjaaGreatDoor
open Go.RowKit
set_option linter.unusedVariables false
set_option linter.unusedSimpArgs false

/-- The four levels of a version, each a slice of its own. -/
def VerAt (w : World) (L : Nat → Value) (f : Nat → List MetaV) : Prop := ∀ i, i < 4 → Lst metaC w (L i) (f i)
theorem VerAt.same {w w' : World} {L : Nat → Value} {f : Nat → List MetaV} (h : VerAt w L f) (hc : Chg (fun _ => False) w w') : VerAt w' L f := fun i hi => (h i hi).same hc
def upTo (f : Nat → List MetaV) (k : Nat) : List Int := (List.range k).flatMap fun i => (f i).map (·.file)
theorem upTo_succ (f : Nat → List MetaV) (k : Nat) : upTo f (k + 1) = upTo f k ++ (f k).map (·.file) := by simp [upTo, List.range_succ]
theorem upTo_all (f : Nat → List MetaV) : upTo f 4 = filesOf (flatF f) := by
  simp [upTo, filesOf, flatF, atLevel, List.range_succ, Function.comp_def]
theorem upTo_len (f : Nat → List MetaV) (n k : Nat) (hn : ∀ i, i < k → (f i).length ≤ n) : (upTo f k).length ≤ k * n := by
  induction k with
  | zero => simp [upTo]
  | succ k ih =>
    rw [upTo_succ, List.length_append, List.length_map, Nat.add_mul, Nat.one_mul]
    have := ih fun i hi => hn i (by omega)
    have := hn k (by omega)
    omega
theorem run_index4 (L : Nat → Value) {k : Nat} (hk : k < 4) (w : World) : (Instr.index 27 (.agg #[L 0, L 1, L 2, L 3]) (.int .i64 (k : Int))).run Tryz.prog w = .ok (L k) w := by
  match k, hk with
  | 0, _ => exact (show (Instr.index 27 (.agg #[L 0, L 1, L 2, L 3]) (.int .i64 0)).run Tryz.prog w = .ok (L 0) w by kernel_rfl)
  | 1, _ => exact (show (Instr.index 27 (.agg #[L 0, L 1, L 2, L 3]) (.int .i64 1)).run Tryz.prog w = .ok (L 1) w by kernel_rfl)
  | 2, _ => exact (show (Instr.index 27 (.agg #[L 0, L 1, L 2, L 3]) (.int .i64 2)).run Tryz.prog w = .ok (L 2) w by kernel_rfl)
  | 3, _ => exact (show (Instr.index 27 (.agg #[L 0, L 1, L 2, L 3]) (.int .i64 3)).run Tryz.prog w = .ok (L 3) w by kernel_rfl)

/-- All files, rising. -/
def FilesPost (w : World) (f : Nat → List MetaV) (e : Ending) (w' : World) : Prop :=
  ∃ v, e = .returned v ∧ Lst i64C w' v ((filesOf (flatF f)).mergeSort fun x y => decide (x ≤ y)) ∧ (∀ k, v.ownBlock = some k → w.heap.size ≤ k) ∧ Chg (fun _ => False) w w'

set_option maxRecDepth 100000 in
set_option maxHeartbeats 4000000 in
theorem ver_files (L : Nat → Value) (f : Nat → List MetaV) (log next seq : Int) (w : World) (h : VerAt w L f) (hn : ∀ i, i < 4 → (f i).length ≤ 100000000) :
    Calls Tryz.prog 87 #[.agg #[L 0, L 1, L 2, L 3, .int .i64 log, .int .i64 next, .int .i64 seq]] w (FilesPost w f) := by
  obtain ⟨w1, hw1⟩ : ∃ w1, w1 = w.alloc (.cells #[L 0, L 1, L 2, L 3, .int .i64 log, .int .i64 next, .int .i64 seq] 29) := ⟨_, rfl⟩
  have hc1 : Chg (fun _ => False) w w1 := by rw [hw1]; ((repeat (first | exact Chg.refl _ _ | assumption | refine Chg.drewN ?_ _ | refine Chg.drew ?_ | refine Chg.alloc ?_ _ | refine Chg.setCell ?_ (by first | (simp; done) | (simp; omega) | (intro h; simp at h; omega)) _)))
  have hb1 : Blk w1 w.heap.size 29 #[L 0, L 1, L 2, L 3, .int .i64 log, .int .i64 next, .int .i64 seq] := by rw [hw1]; exact Blk.new w _ _
  have y0 := hb1.cell 0
  have y1 := hb1.cell 1
  have y2 := hb1.cell 2
  have y3 := hb1.cell 3
  simp at y0 y1 y2 y3
  have HW1 := Lib.hid hw1
  have HC1 := Lib.hid hc1
  have H := Lib.hid h
  have HN := Lib.hid hn
  have HIX := Lib.hid (fun (k : Nat) (hk : k < 4) (w : World) => run_index4 L hk w)
  clear hw1 hc1 hb1 h hn
  go_enter Tryz.func87, Tryz.ntmps87
  go_wp2_with fail
  rw [← HW1.out]
  go_wp2_with fail
  go_loopw [3, 10] (fun out i wr => ∃ k : Nat, k ≤ 4 ∧ i = .int .i64 k ∧ Lst i64C wr out (upTo f k) ∧ (∀ b, out.ownBlock = some b → w1.heap.size ≤ b) ∧ Chg (fun _ => False) w1 wr) (fun _ i _ => 4 - (intOf i).toNat)
  case atStart => exact ⟨0, by omega, rfl, Lst.nil _ _, by simp [Value.ownBlock], Chg.refl _ _⟩
  case round =>
    obtain ⟨k, hk4, rfl, hO, hk, hc⟩ := hrel
    have hlen := upTo_len f 100000000 k (fun i hi => HN.out i (by omega))
    by_cases hlt : k < 4
    · obtain ⟨F, hF⟩ : ∃ F, upTo f k = F := ⟨_, rfl⟩
      rw [hF] at hO hlen
      obtain ⟨oa, oc, rfl, hoc, hon, _⟩ := i64_form hO
      have hix := HIX.out k hlt
      obtain ⟨la, lc, hL, hlc, hln, hread⟩ := meta_form (H.out k hlt)
      rw [hL] at hix
      have hnk := HN.out k hlt
      have hlt' : (k : Int) < 4 := by omega
      have HR := Lib.hid hread
      have HL := Lib.hid hL
      have HO := Lib.hid hO
      have HK := Lib.hid hk
      have HC := Lib.hid hc
      obtain ⟨wo, hwo⟩ : ∃ wo : World, wo = wr := ⟨_, rfl⟩
      subst hwo
      have HF := Lib.hid hF
      clear hread hL hO hk hc hF
      go_wp2_with fail
      go_loopw [3, 15] (fun out i wr => ∃ A R, f k = A ++ R ∧ i = .int .i64 A.length ∧ Lst i64C wr out (F ++ A.map (·.file)) ∧ (∀ b, out.ownBlock = some b → w1.heap.size ≤ b) ∧ Chg (fun _ => False) w1 wr) (fun _ i _ => (f k).length - (intOf i).toNat)
      case atStart => exact ⟨[], f k, rfl, rfl, by simpa using HO.out, HK.out, HC.out⟩
      case round =>
        obtain ⟨A, R, hfk, rfl, hO2, hk2, hc2⟩ := hrel
        have hAl : A.length ≤ (f k).length := by rw [hfk]; simp
        obtain ⟨G, hG⟩ : ∃ G, F ++ A.map (·.file) = G := ⟨_, rfl⟩
        have hGl : G.length ≤ 500000000 := by rw [← hG, List.length_append, List.length_map]; omega
        rw [hG] at hO2
        obtain ⟨pa, pc, rfl, hpc, hpn, _⟩ := i64_form hO2
        have HO2 := Lib.hid hO2
        have HK2 := Lib.hid hk2
        have HC2 := Lib.hid hc2
        have HG := Lib.hid hG
        have hcs := hc2.size
        cases R with
        | nil =>
          have hge : ¬ ((A.length : Int) < ((f k).length : Int)) := by rw [hfk]; simp
          have hend : upTo f (k + 1) = G := by rw [upTo_succ, HF.out, ← hG, hfk]; simp
          have HE := Lib.hid hend
          clear hfk hO2 hk2 hc2 hG hend
          go_wp2_with fail
          go_roundw
          case rel => exact ⟨k + 1, by omega, by go_num, by rw [HE.out]; exact HO2.out, HK2.out, HC2.out⟩
          case measure => simp [intOf]; omega
        | cons x B =>
          obtain ⟨b, rfl, hb, _, z0, z1, z2, z3⟩ := HR.out A x B hfk
          have hc3 := HC1.out.then hc2
          have z0' := (hc3.cell (p := ⟨b, A.length * 4, none⟩) hb (by simp)).trans z0
          have z1' := (hc3.cell (p := ⟨b, A.length * 4 + 1, none⟩) hb (by simp)).trans z1
          have z2' := (hc3.cell (p := ⟨b, A.length * 4 + 2, none⟩) hb (by simp)).trans z2
          have z3' := (hc3.cell (p := ⟨b, A.length * 4 + 3, none⟩) hb (by simp)).trans z3
          have hlt2 : (A.length : Int) < ((f k).length : Int) := by rw [hfk]; simp; omega
          have hge : (0 : Int) ≤ (A.length : Int) := by omega
          have hf2 : f k = (A ++ [x]) ++ B := by rw [hfk]; simp
          have HF2 := Lib.hid hf2
          clear hfk hO2 hk2 hc2 hG hf2 hc3 z0 z1 z2 z3
          go_wp2_with (at_builtin; refine wpList_lst_app i64Ok _ (by rfl) _ _ (by rfl) G _ x.file (by rfl) (HO2.out.same (by ((repeat (first | exact Chg.refl _ _ | assumption | refine Chg.drewN ?_ _ | refine Chg.drew ?_ | refine Chg.alloc ?_ _ | refine Chg.setCell ?_ (by first | (simp; done) | (simp; omega) | (intro h; simp at h; omega)) _))))) _ (by rfl) (by omega) (Blk.new1 _ _ _ _) ?_)
          intro v' w' hO' hcg hb'
          have hk' : ∀ b, v'.ownBlock = some b → w1.heap.size ≤ b := fun k' hk' => by
            rcases hb' k' hk' with e | e
            · exact HK2.out k' e
            · first | omega | (simp at e; omega)
          have hc' : Chg (fun _ => False) w1 w' := Chg.trans (by have := HC2.out; ((repeat (first | exact Chg.refl _ _ | assumption | refine Chg.drewN ?_ _ | refine Chg.drew ?_ | refine Chg.alloc ?_ _ | refine Chg.setCell ?_ (by first | (simp; done) | (simp; omega) | (intro h; simp at h; omega)) _)))) hcg (fun k hk e => by have := HK2.out k e; omega)
          have HO' := Lib.hid hO'
          have HK' := Lib.hid hk'
          have HC' := Lib.hid hc'
          clear hO' hcg hb' hk' hc'
          go_wp2_with fail
          go_roundw
          case rel => exact ⟨A ++ [x], B, HF2.out, by simp, by have := HO'.out; rw [← HG.out] at this; simpa using this, HK'.out, HC'.out⟩
          case measure => simp [intOf]; omega
    · obtain rfl : k = 4 := by omega
      obtain ⟨F, hF⟩ : ∃ F, upTo f 4 = F := ⟨_, rfl⟩
      rw [hF] at hO hlen
      obtain ⟨oa, oc, rfl, hoc, hon, _⟩ := i64_form hO
      have hs := sort_ints _ F (by omega) wr hO
      have hF2 : F = filesOf (flatF f) := by rw [← hF, upTo_all]
      have HF2 := Lib.hid hF2
      have HK := Lib.hid hk
      have HC := Lib.hid hc
      have HC1' := Lib.hid (HC1.out.then HC.out)
      have hcs := HC1.out.size
      have HS := Lib.hid hs
      clear hO hF hF2 hk hc hs
      go_wp2_with fail
      refine HS.out.mono ?_
      rintro e w' ⟨rfl, hO', hc'⟩
      have hfin : Chg (fun _ => False) w w' := HC1'.out.trans hc' (fun k hk e => by have := HK.out k e; omega)
      have HO' := Lib.hid hO'
      have HF := Lib.hid hfin
      clear hO' hfin hc'
      go_wp2_with fail
      go_ret
      refine ⟨_, rfl, by rw [← HF2.out]; exact HO'.out, fun k hk => by have := HK.out k hk; omega, HF.out⟩
end Go.Proofs.YtahahginmgidjaaGreatDoor
namespace Go.Proofs.YtahahginmgidjaaGreatDoor
open Go.RowKit
set_option linter.unusedVariables false
set_option linter.unusedSimpArgs false

theorem split_at {α : Type} {l : List α} {k : Nat} (h : k < l.length) : ∃ x, l[k]? = some x ∧ l = l.take k ++ x :: l.drop (k + 1) ∧ (l.take k).length = k ∧ l.take (k + 1) = l.take k ++ [x] ∧ l.drop k = x :: l.drop (k + 1) := by
  refine ⟨l[k], List.getElem?_eq_getElem h, ?_, by simp; omega, ?_, List.drop_eq_getElem_cons h⟩
  · rw [List.getElem_cons_drop, List.take_append_drop]
  · rw [List.take_succ_eq_append_getElem h]
set_option maxRecDepth 100000 in
set_option maxHeartbeats 2000000 in
theorem idx_i64 (l : List Int) (v : Value) (x : Int) (w : World) (h : Lst i64C w v l) (hl : l.length ≤ 1000000000) : Calls Tryz.prog 144 #[v, .int .i64 x] w fun e w' => ∃ k : Int, e = .returned (.int .i64 k) ∧ (0 ≤ k ↔ x ∈ l) ∧ w = w' := by
  obtain ⟨a, cap, rfl, hlc, _, hr⟩ := h.form i64Ok
  have HR := Lib.hid hr
  clear hr h
  go_enter Tryz.func144, Tryz.ntmps144
  go_wp2_with fail
  go_loopw [8] (fun i wr => wr = w ∧ ∃ k : Nat, i = .int .i64 (k : Int) ∧ k ≤ l.length ∧ x ∉ l.take k) (fun i _ => l.length - (intOf i).toNat)
  case atStart => exact ⟨rfl, 0, rfl, Nat.zero_le _, by simp⟩
  case round =>
    obtain ⟨rfl, k, rfl, hk, hno⟩ := hrel
    by_cases hlt : k < l.length
    · obtain ⟨y, hy, hA, hB, hC, _⟩ := split_at hlt
      obtain ⟨b, rfl, hb, _, hcell⟩ := HR.out _ _ _ hA
      have x0 := hcell 0 _ rfl
      rw [hB] at x0
      simp only [i64C, Nat.mul_one, Nat.add_zero] at x0
      have hq : decide ((k : Int) < (l.length : Int)) = true := by simp; omega
      have hmem : y ∈ l := List.mem_of_getElem? hy
      have HC := Lib.hid hC
      clear hcell hA hB hC hy
      by_cases he : x = y
      · subst he
        have hq2 : (x == x) = true := by simp
        go_wp2_with fail
        go_ret
        exact ⟨(k : Int), rfl, ⟨fun _ => hmem, fun _ => by omega⟩, rfl⟩
      · have hq2 : (x == y) = false := by simp [he]
        have hi := IntWalk.i64_in ((k : Int) + 1) (by omega)
        go_wp2_with fail
        refine ⟨⟨trivial, k + 1, by simp [hi], by omega, by rw [HC.out]; simp [hno, he]⟩, by simp [intOf, hi]; omega⟩
    · have hke : k = l.length := by omega
      subst hke
      rw [List.take_length] at hno
      have hq : decide ((l.length : Int) < (l.length : Int)) = false := by simp
      go_wp2_with fail
      go_ret
      exact ⟨-1, rfl, ⟨fun h => by omega, fun h => absurd h hno⟩, rfl⟩
set_option maxRecDepth 100000 in
set_option maxHeartbeats 2000000 in
theorem has_i64 (l : List Int) (v : Value) (x : Int) (w : World) (h : Lst i64C w v l) (hl : l.length ≤ 1000000000) : Calls Tryz.prog 95 #[v, .int .i64 x] w fun e w' => e = .returned (.bool (decide (x ∈ l))) ∧ w = w' := by
  have hi := idx_i64 l v x w h hl
  have HI := Lib.hid hi
  clear hi h
  go_enter Tryz.func95, Tryz.ntmps95
  go_wp2_with fail
  refine HI.out.mono ?_
  rintro e w1 ⟨k, rfl, hk, rfl⟩
  have HK := Lib.hid hk
  clear hk
  go_wp2_with fail
  go_ret
  refine ⟨?_, rfl⟩
  have := HK.out
  congr 2
  by_cases h0 : 0 ≤ k
  · simp [h0, this.1 h0]
  · have : x ∉ l := fun e => h0 (this.2 e)
    simp [h0, this]
set_option maxRecDepth 100000 in
set_option maxHeartbeats 2000000 in
theorem idx_str (l : List ByteArray) (v : Value) (x : ByteArray) (w : World) (h : Lst strC w v l) (hl : l.length ≤ 1000000000) : Calls Tryz.prog 108 #[v, .string x] w fun e w' => ∃ k : Int, e = .returned (.int .i64 k) ∧ (0 ≤ k ↔ x ∈ l) ∧ w = w' := by
  obtain ⟨a, cap, rfl, hlc, _, hr⟩ := h.form strOk
  have HR := Lib.hid hr
  clear hr h
  go_enter Tryz.func108, Tryz.ntmps108
  go_wp2_with fail
  go_loopw [8] (fun i wr => wr = w ∧ ∃ k : Nat, i = .int .i64 (k : Int) ∧ k ≤ l.length ∧ x ∉ l.take k) (fun i _ => l.length - (intOf i).toNat)
  case atStart => exact ⟨rfl, 0, rfl, Nat.zero_le _, by simp⟩
  case round =>
    obtain ⟨rfl, k, rfl, hk, hno⟩ := hrel
    by_cases hlt : k < l.length
    · obtain ⟨y, hy, hA, hB, hC, _⟩ := split_at hlt
      obtain ⟨b, rfl, hb, _, hcell⟩ := HR.out _ _ _ hA
      have x0 := hcell 0 _ rfl
      rw [hB] at x0
      simp only [strC, Nat.mul_one, Nat.add_zero] at x0
      have hq : decide ((k : Int) < (l.length : Int)) = true := by simp; omega
      have hmem : y ∈ l := List.mem_of_getElem? hy
      have HC := Lib.hid hC
      clear hcell hA hB hC hy
      by_cases he : x = y
      · subst he
        have hq2 : (x.toList == x.toList) = true := by simp
        go_wp2_with fail
        go_ret
        exact ⟨(k : Int), rfl, ⟨fun _ => hmem, fun _ => by omega⟩, rfl⟩
      · have hq2 : (x.toList == y.toList) = false := by rw [ba_test]; simp [he]
        have hi := IntWalk.i64_in ((k : Int) + 1) (by omega)
        go_wp2_with fail
        refine ⟨⟨trivial, k + 1, by simp [hi], by omega, by rw [HC.out]; simp [hno, he]⟩, by simp [intOf, hi]; omega⟩
    · have hke : k = l.length := by omega
      subst hke
      rw [List.take_length] at hno
      have hq : decide ((l.length : Int) < (l.length : Int)) = false := by simp
      go_wp2_with fail
      go_ret
      exact ⟨-1, rfl, ⟨fun h => by omega, fun h => absurd h hno⟩, rfl⟩
def hasTx (l : List ByteArray) (x : ByteArray) : Bool := l.any fun y => decide (y = x)
theorem hasTx_iff {l : List ByteArray} {x : ByteArray} : hasTx l x = true ↔ x ∈ l := by simp [hasTx]
set_option maxRecDepth 100000 in
set_option maxHeartbeats 2000000 in
theorem has_str (l : List ByteArray) (v : Value) (x : ByteArray) (w : World) (h : Lst strC w v l) (hl : l.length ≤ 1000000000) : Calls Tryz.prog 39 #[v, .string x] w fun e w' => e = .returned (.bool (hasTx l x)) ∧ w = w' := by
  have hi := idx_str l v x w h hl
  have HI := Lib.hid hi
  clear hi h
  go_enter Tryz.func39, Tryz.ntmps39
  go_wp2_with fail
  refine HI.out.mono ?_
  rintro e w1 ⟨k, rfl, hk, rfl⟩
  have HK := Lib.hid hk
  clear hk
  go_wp2_with fail
  go_ret
  refine ⟨?_, rfl⟩
  have := HK.out
  congr 2
  by_cases h0 : 0 ≤ k
  · rw [hasTx_iff.2 (this.1 h0)]
    simp [h0]
  · have h1 : hasTx l x = false := by
      rw [Bool.eq_false_iff]
      exact fun e => h0 (this.2 (hasTx_iff.1 e))
    rw [h1]
    simp [h0]
def namesL (D : DiskV) : List ByteArray := D.names.map (·.1)
theorem listD_pasc {D : DiskV} (h : PAsc D.names) : listD D = D.names.map fun p => p.1.data.toList := by
  unfold listD
  refine List.mergeSort_of_pairwise ?_
  rw [List.pairwise_map]
  refine h.imp fun {a b} hab => ?_
  have := p_slt_iff.1 hab
  simp only [leB]
  simp
  exact List.le_of_lt this
theorem y_list (w0 : World) (d : Nat) (D : DiskV) (Y : Nat → Prop) (hn : D.names.length ≤ 1000000) (ha : PAsc D.names) (w : World) (h : DY w0 w d D Y) :
    Calls Tryz.prog 10 #[.pointer (some ⟨d, 0, none⟩)] w fun e w' => ∃ v, e = .returned v ∧ Lst strC w' v (namesL D) ∧ (∀ k, v.ownBlock = some k → w.heap.size ≤ k) ∧ Chg (fun _ => False) w w' := by
  obtain ⟨ids, M, hd, _, _, _⟩ := h
  refine (disk_list d ids D M hn w hd).mono fun e w' ⟨v, he, hrow, hc⟩ => ⟨v, he, ?_, ?_, hc⟩
  · have ho := Own.of_row hrow
    rw [listD_pasc ha] at ho
    have e1 : ((D.names.map fun p => p.1.data.toList).map encStr) = (namesL D).flatMap strC.g := by
      rw [List.map_map, namesL, List.flatMap_map]
      induction D.names with
      | nil => rfl
      | cons p r ih => rw [List.map_cons, List.flatMap_cons, ih]; rfl
    rw [e1] at ho
    have e2 : (D.names.map fun p => p.1.data.toList).length = (namesL D).length := by simp [namesL]
    rw [e2] at ho
    exact ho
  · rintro k hk
    rcases hrow.2 with ⟨rfl, _⟩ | ⟨g, cap, cur, rfl, h2, _⟩
    · simp [Value.ownBlock] at hk
    · simp [Value.ownBlock] at hk
      omega
/-- Is the file one that a version needs, or none of ours? -/
def needM (nm : ByteArray) (n log : Int) (files : List Int) : Bool :=
  if (numL kindB.data.toList nm.data.toList).2 then (numL kindB.data.toList nm.data.toList).1 == n
  else if (numL logK.data.toList nm.data.toList).2 then (numL logK.data.toList nm.data.toList).1 == log
  else if (numL tableK.data.toList nm.data.toList).2 then decide ((numL tableK.data.toList nm.data.toList).1 ∈ files)
  else !(nm.toList == nextB.toList)
end Go.Proofs.YtahahginmgidjaaGreatDoor
