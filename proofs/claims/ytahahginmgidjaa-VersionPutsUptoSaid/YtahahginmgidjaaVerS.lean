/-
  The library's sorts at a list in a block of its own: slices.Sort at []int64, slices.SortFunc at tables, by the two closures of a version's sort.
-/
import Derived.Test.YtahahginmgidjaaLay
import Derived.Test.YtahahginmgidjaaVerA
namespace Go.Proofs.Ytahahginmgidjaa
open Go.RowKit Go.Sort
set_option linter.unusedVariables false
set_option linter.unusedSimpArgs false

/-! ### What the library's words for a sorted row say of a list -/
theorem putRow_blk {enc : Value → Value} {w : World} {g : Nat} {t : TypeId} {cs : Array Value} (hb : Blk w g t cs) (F : Array Value) (hF : F.size ≤ cs.size) (n : Nat) (os : Array Obj) :
    ∃ cs', Blk (grow (putRow id (Go.Sort.ahead w n) g 0 F) os) g t cs' ∧ cs'.size = cs.size ∧ cs'.toList.take F.size = F.toList := by
  refine ⟨putCells id 0 F cs, ?_, by simp [putCells], ?_⟩
  · have hlt := hb.lt
    have hb' : w.heap[g]? = some (.cells cs t (0, 0)) := hb
    have h1 : (mapBlock (Go.Sort.ahead w n) g (putCells id 0 F)).heap[g]? = some (.cells (putCells id 0 F cs) t (0, 0)) := by
      unfold mapBlock
      show (w.heap.modify g _)[g]? = _
      rw [Array.getElem?_modify, if_pos rfl, hb']
      rfl
    show ((mapBlock (Go.Sort.ahead w n) g (putCells id 0 F)).heap ++ os)[g]? = _
    rw [Array.getElem?_append_left (by
      have := (Array.getElem?_eq_some_iff.1 h1).1
      exact this), h1]
  · apply List.ext_getElem?
    intro i
    rw [List.getElem?_take]
    by_cases hi : i < F.size
    · rw [if_pos hi, Array.getElem?_toList, Array.getElem?_toList]
      unfold putCells
      rw [Array.getElem?_mapIdx, Array.getElem?_eq_getElem (by omega : i < cs.size), Array.getElem?_eq_getElem hi]
      simp [hi]
    · rw [if_neg hi, Array.getElem?_toList, Array.getElem?_eq_none (by omega)]
theorem putRow_chg {enc : Value → Value} (w : World) (g : Nat) (F : Array Value) (n : Nat) (os : Array Obj) : Chg (fun k => k = g) w (grow (putRow id (Go.Sort.ahead w n) g 0 F) os) := by
  refine ⟨rfl, rfl, rfl, ?_, fun k hk hn => ?_⟩
  · show w.heap.size ≤ ((w.heap.modify g _) ++ os).size
    simp
  · show ((w.heap.modify g _) ++ os)[k]? = _
    rw [Array.getElem?_append_left (by simpa using hk), Array.getElem?_modify, if_neg (fun e => hn e.symm)]
section
variable {α : Type} [Inhabited α] {C : Codec α}
theorem flatK_flat (hC : C.Ok) (d : Array α) : (flatK C.g C.k d).toList = d.toList.flatMap C.g := by
  apply List.ext_getElem?
  intro t
  by_cases ht : t < d.size * C.k
  · have hk := hC.pos
    have hq : t / C.k < d.size := Nat.div_lt_of_lt_mul (by rw [Nat.mul_comm]; exact ht)
    have hr : t % C.k < C.k := Nat.mod_lt _ hk
    have hd : d.toList = d.toList.take (t / C.k) ++ d.toList[t / C.k]'(by simpa using hq) :: d.toList.drop (t / C.k + 1) := by rw [← List.drop_eq_getElem_cons (by simpa using hq), List.take_append_drop]
    have hl : (d.toList.take (t / C.k)).length = t / C.k := by simp; omega
    have := flat_at hC.len (d.toList.take (t / C.k)) (d.toList[t / C.k]'(by simpa using hq)) (d.toList.drop (t / C.k + 1)) (t % C.k) ((C.g (d.toList[t / C.k]'(by simpa using hq)))[t % C.k]'(by rw [hC.len]; exact hr)) (by rw [List.getElem?_eq_getElem])
    rw [← hd, hl, Nat.div_add_mod' t C.k] at this
    rw [this, Array.getElem?_toList, Array.getElem?_eq_getElem (by rw [size_flatK]; exact ht)]
    have hg := get_flatK C.g C.k d t ht
    rw [getElem!_pos _ t (by rw [size_flatK]; exact ht)] at hg
    rw [hg, getElem!_pos d _ hq, getElem!_pos _ _ (by rw [hC.len]; exact hr)]
    simp
  · rw [List.getElem?_eq_none (by rw [Array.length_toList, size_flatK]; omega), List.getElem?_eq_none (by rw [flat_len hC.len, Array.length_toList]; omega)]
theorem holdsK_of {w : World} {v : Value} {l : List α} (hC : C.Ok) (h : Lst C w v l) {g : Nat} (hg : v.ownBlock = some g) : HoldsK C.g C.k w g 0 l.toArray := by
  have hfl := flatK_flat hC l.toArray
  intro j hj
  rw [size_flatK] at hj
  obtain ⟨a, cap, rfl, _, _, h3⟩ := Own.reads h
  have hn : 0 < l.length := by
    rcases Nat.eq_zero_or_pos l.length with h0 | h0
    · simp [h0] at hj
    · exact h0
  obtain ⟨b, rfl, hb, ho, hc⟩ := h3 hn
  rw [hg] at ho
  cases ho
  rw [Nat.zero_add]
  refine ⟨hc j _ ?_, Own.frozen h hg j⟩
  rw [← show (l.toArray).toList = l from rfl, ← hfl, Array.getElem?_toList, Array.getElem?_eq_getElem (by rw [size_flatK]; exact hj), getElem!_pos _ j (by rw [size_flatK]; exact hj)]
  rfl
theorem sortWorldK_lst {w : World} {v : Value} {l : List α} (hC : C.Ok) (h : Lst C w v l) {g : Nat} (hg : v.ownBlock = some g) (n : Nat) (d' : Array α) (hd : d'.size = l.length) (os : Array Obj) :
    Lst C (sortWorldK C.g C.k w g 0 n d' os) v d'.toList ∧ Chg (fun k => v.ownBlock = some k) w (sortWorldK C.g C.k w g 0 n d' os) := by
  have hfl := flatK_flat hC d'
  constructor
  · obtain ⟨hl, hr⟩ := h
    rcases hr with ⟨rfl, _⟩ | ⟨g', cap, cur, rfl, hb, hn, hm, hcs, ht⟩
    · simp [Value.ownBlock] at hg
    · simp [Value.ownBlock] at hg
      subst hg
      have hle : l.length * C.k ≤ cap * C.k := Nat.mul_le_mul_right _ hn
      obtain ⟨cs', hb', hsz, htk⟩ := putRow_blk (enc := id) (show Blk w g' C.e cur from hb) (flatK C.g C.k d') (by rw [size_flatK, hd]; omega) n os
      have hdl : d'.toList.length = l.length := by rw [Array.length_toList]; exact hd
      refine ⟨flat_len hC.len _, .inr ⟨g', cap, cs', by rw [hdl], hb', by rw [hdl]; exact hn, hm, by rw [hsz]; exact hcs, ?_⟩⟩
      rw [← hfl, ← htk, size_flatK, Array.length_toList]
  · exact (putRow_chg (enc := id) w g _ n os).mono fun k _ hk => by rw [hk]; exact hg
theorem perm_of_permIn {l : List α} {d' : Array α} (h : PermIn 0 l.toArray.size l.toArray d') : d'.size = l.length ∧ d'.toList.Perm l := by
  obtain ⟨h1, _, h3⟩ := h
  have h1' : d'.size = l.length := by simpa using h1
  refine ⟨h1', ?_⟩
  have e1 : d'.extract 0 l.toArray.size = d' := by
    rw [show l.toArray.size = d'.size from h1.symm]; simp
  have e2 : l.toArray.extract 0 l.toArray.size = l.toArray := by simp
  rw [e1, e2] at h3
  exact h3
theorem sorted_of {f : α → α → Bool} {d' : Array α} (h : SortedIn f 0 d'.size d') : Sorted f d'.toList := by
  unfold Sorted
  rw [List.pairwise_iff_getElem]
  intro i j hi hj hij
  simp only [Array.length_toList] at hi hj
  have := h i j (Nat.zero_le _) hij hj
  rw [getElem!_pos _ i hi, getElem!_pos _ j hj] at this
  simpa using this
end

/-! ### The closures -/
instance : Inhabited MetaV := ⟨⟨0, 0, ⟨#[]⟩, ⟨#[]⟩⟩⟩
def cf0 (a b : MetaV) : Int := Lib.compareInt b.file a.file
def cf1 (a b : MetaV) : Int := Lib.compareBytes a.lo.data.toList b.lo.data.toList
theorem lt0 (a b : MetaV) : ltOf cf0 a b = before 0 a b := by
  unfold ltOf cf0 before Lib.compareInt
  by_cases h1 : b.file < a.file
  · simp [h1]
  · by_cases h2 : b.file > a.file <;> simp [h1, h2]
theorem compareBytes_lt : ∀ (a b : List UInt8), (Lib.compareBytes a b < 0) ↔ Op.bytesLess a b = true
  | [], [] => by simp [Lib.compareBytes, Op.bytesLess]
  | [], _ :: _ => by simp [Lib.compareBytes, Op.bytesLess]
  | _ :: _, [] => by simp [Lib.compareBytes, Op.bytesLess]
  | x :: a, y :: b => by
    have ih := compareBytes_lt a b
    simp only [Lib.compareBytes, Op.bytesLess]
    by_cases h1 : x < y
    · simp [h1]
    · by_cases h2 : y < x
      · have : ¬ x = y := fun e => by subst e; exact h1 h2
        simp [h1, h2, this]
      · have : x = y := by
          have h1' : ¬ x.toNat < y.toNat := h1
          have h2' : ¬ y.toNat < x.toNat := h2
          exact UInt8.toNat_inj.1 (by omega)
        simp [h1, h2, this, ih]
theorem lt1 (a b : MetaV) : ltOf cf1 a b = before 1 a b := by
  unfold ltOf cf1 before
  rw [if_neg (by decide)]
  unfold sl
  rw [ByteArray.toList_eq, ByteArray.toList_eq]
  rw [Bool.eq_iff_iff, decide_eq_true_iff, compareBytes_lt]
theorem swoB (i : Nat) {f : MetaV → MetaV → Bool} (h : ∀ a b, f a b = before i a b) : SWO f where
  irrefl x := by rw [h]; exact before_irrefl i x
  trans x y z h1 h2 := by rw [h] at *; exact before_trans i x y z h1 h2
  ntrans x y z h1 h2 := by rw [h] at *; exact before_ntrans i x y z h1 h2

set_option maxRecDepth 100000 in
set_option maxHeartbeats 1000000 in
theorem sort1_any (x y : MetaV) (W : World) : Calls Try.prog 36 #[.agg #[.int .i64 x.file, .int .i64 x.size, .string x.lo, .string x.hi], .agg #[.int .i64 y.file, .int .i64 y.size, .string y.lo, .string y.hi]] W fun e w' => e = .returned (.int .i64 (cf0 x y)) ∧ ∃ q os', w' = grow (W.drewN q) os' := by
  have hcon := fun W' => AnyG.cmp_Compare_int Try.cmp64 y.file x.file W'
  change ∀ W', Calls Try.prog 37 _ _ _ at hcon
  unfold cf0
  generalize Lib.compareInt y.file x.file = r at hcon ⊢
  go_enter Try.func36, Try.ntmps36
  go_wp2_with (go_at_call 37; refine (hcon _).mono ?_; rintro e w' ⟨rfl, rfl⟩)
  go_ret
  exact ⟨rfl, 0, _, by rw [alloc_eq_grow, alloc_eq_grow, grow_grow]; rfl⟩
set_option maxRecDepth 100000 in
set_option maxHeartbeats 1000000 in
theorem sort2_any (x y : MetaV) (W : World) : Calls Try.prog 38 #[.agg #[.int .i64 x.file, .int .i64 x.size, .string x.lo, .string x.hi], .agg #[.int .i64 y.file, .int .i64 y.size, .string y.lo, .string y.hi]] W fun e w' => e = .returned (.int .i64 (cf1 x y)) ∧ ∃ q os', w' = grow (W.drewN q) os' := by
  have hcon := fun W' => Any.strings_Compare Try.strCmp x.lo y.lo W'
  change ∀ W', Calls Try.prog 39 _ _ _ at hcon
  unfold cf1
  generalize Lib.compareBytes x.lo.data.toList y.lo.data.toList = r at hcon ⊢
  go_enter Try.func38, Try.ntmps38
  go_wp2_with (go_at_call 39; refine (hcon _).mono ?_; rintro e w' ⟨rfl, rfl⟩)
  go_ret
  exact ⟨rfl, 0, _, by rw [alloc_eq_grow, alloc_eq_grow, grow_grow]; rfl⟩

/-! ### The sorts -/
/-- A level is sorted. -/
def SortPost (w : World) (i : Nat) (v : Value) (l : List MetaV) (e : Ending) (w' : World) : Prop :=
  e = .returned (.tuple #[]) ∧ ∃ l', Lst metaC w' v l' ∧ l'.Perm l ∧ Sorted (before i) l' ∧ Chg (fun k => v.ownBlock = some k) w w'
theorem sort_nil (fv : Value) (w : World) (i : Nat) : Calls Try.prog 35 #[.slice none 0 0, fv] w (SortPost w i (.slice none 0 0) []) := by
  have h := AnyF.slices_SortFunc_none { Try.sortM with } none 0 fv w
  change Calls Try.prog 35 _ _ _ at h
  exact h.mono fun e w' ⟨he, hw⟩ => by subst hw; exact ⟨he, [], Lst.nil _ _, List.Perm.refl _, by simp [Sorted], Chg.refl _ _⟩
theorem sort_level0 (v : Value) (l : List MetaV) (hl : l.length ≤ 1000000000) (w : World) (h : Lst metaC w v l) : Calls Try.prog 35 #[v, .func (.func 36) #[] #[]] w (SortPost w 0 v l) := by
  by_cases hn : v.ownBlock = none
  · rcases h.2 with ⟨rfl, h0⟩ | ⟨g, cap, cur, rfl, _⟩
    · obtain rfl := List.eq_nil_of_length_eq_zero h0
      exact sort_nil _ w 0
    · simp [Value.ownBlock] at hn
  · obtain ⟨g, hg⟩ := Option.ne_none_iff_exists'.1 hn
    obtain ⟨a, cap, rfl, _, _, h3⟩ := Own.form h
    have hH := holdsK_of metaOk h hg
    have hlt := h.lt hg
    have ha : a = some ⟨g, 0, none⟩ := by
      cases a with
      | none => simp [Value.ownBlock] at hg
      | some x =>
        obtain ⟨h4, h5, h6⟩ := h3.2 x rfl
        rw [hg] at h6
        obtain ⟨b, o, s⟩ := x
        simp at h4 h5 h6
        subst h4 h5 h6
        rfl
    subst ha
    have hcon := AnyQ.slices_SortFunc Try.sortM 4 (fun w => by kernel_rfl) (fun w => by kernel_rfl) mrow (fun _ => rfl) (fun x u hu => by simp [mrow] at hu; rcases hu with rfl | rfl | rfl | rfl <;> rfl) cf0 (swoB 0 lt0) 36 #[] g 0 cap l.toArray w (enters_of Try.func36 (by kernel_rfl) rfl)
      (fun _ _ _ _ x y => sort1_any x y _) hH hlt (by simp; omega)
    change Calls Try.prog 35 _ _ _ at hcon
    refine hcon.mono fun e w' ⟨he, d', n, os, hp, hs, hw⟩ => ?_
    subst hw
    obtain ⟨hd, hp⟩ := perm_of_permIn hp
    obtain ⟨h7, h8⟩ := sortWorldK_lst metaOk h hg n d' hd os
    refine ⟨he, d'.toList, h7, hp, ?_, h8⟩
    have := sorted_of (f := ltOf cf0) (d' := d') (by rw [hd]; simpa using hs)
    exact this.imp fun {a b} h => by rw [← lt0]; exact h
theorem sort_level (i : Nat) (hi : i ≠ 0) (v : Value) (l : List MetaV) (hl : l.length ≤ 1000000000) (w : World) (h : Lst metaC w v l) : Calls Try.prog 35 #[v, .func (.func 38) #[] #[]] w (SortPost w i v l) := by
  by_cases hn : v.ownBlock = none
  · rcases h.2 with ⟨rfl, h0⟩ | ⟨g, cap, cur, rfl, _⟩
    · obtain rfl := List.eq_nil_of_length_eq_zero h0
      exact sort_nil _ w i
    · simp [Value.ownBlock] at hn
  · obtain ⟨g, hg⟩ := Option.ne_none_iff_exists'.1 hn
    obtain ⟨a, cap, rfl, _, _, h3⟩ := Own.form h
    have hH := holdsK_of metaOk h hg
    have hlt := h.lt hg
    have ha : a = some ⟨g, 0, none⟩ := by
      cases a with
      | none => simp [Value.ownBlock] at hg
      | some x =>
        obtain ⟨h4, h5, h6⟩ := h3.2 x rfl
        rw [hg] at h6
        obtain ⟨b, o, s⟩ := x
        simp at h4 h5 h6
        subst h4 h5 h6
        rfl
    subst ha
    have hcon := AnyQ.slices_SortFunc Try.sortM 4 (fun w => by kernel_rfl) (fun w => by kernel_rfl) mrow (fun _ => rfl) (fun x u hu => by simp [mrow] at hu; rcases hu with rfl | rfl | rfl | rfl <;> rfl) cf1 (swoB 1 lt1) 38 #[] g 0 cap l.toArray w (enters_of Try.func38 (by kernel_rfl) rfl)
      (fun _ _ _ _ x y => sort2_any x y _) hH hlt (by simp; omega)
    change Calls Try.prog 35 _ _ _ at hcon
    refine hcon.mono fun e w' ⟨he, d', n, os, hp, hs, hw⟩ => ?_
    subst hw
    obtain ⟨hd, hp⟩ := perm_of_permIn hp
    obtain ⟨h7, h8⟩ := sortWorldK_lst metaOk h hg n d' hd os
    refine ⟨he, d'.toList, h7, hp, ?_, h8⟩
    have := sorted_of (f := ltOf cf1) (d' := d') (by rw [hd]; simpa using hs)
    exact this.imp fun {a b} h => by
      have h2 := (lt1 b a).symm.trans h
      unfold before at h2 ⊢
      rw [if_neg (by decide)] at h2
      rw [if_neg hi]
      exact h2
/-- slices.Sort at []int64. -/
def SortIPost (w : World) (v : Value) (l : List Int) (e : Ending) (w' : World) : Prop :=
  e = .returned (.tuple #[]) ∧ Lst i64C w' v (l.mergeSort fun x y => decide (x ≤ y)) ∧ Chg (fun k => v.ownBlock = some k) w w'
theorem sort_ints (v : Value) (l : List Int) (hl : l.length ≤ 1000000000) (w : World) (h : Lst i64C w v l) : Calls Try.prog 33 #[v] w (SortIPost w v l) := by
  by_cases hn : v.ownBlock = none
  · rcases h.2 with ⟨rfl, h0⟩ | ⟨g, cap, cur, rfl, _⟩
    · obtain rfl := List.eq_nil_of_length_eq_zero h0
      have h := AnyM.slices_Sort_int_none { Try.sort64 with } none 0 w
      change Calls Try.prog 33 _ _ _ at h
      exact h.mono fun e w' ⟨he, hw⟩ => by subst hw; exact ⟨he, by rw [List.mergeSort_nil]; exact Lst.nil _ _, Chg.refl _ _⟩
    · simp [Value.ownBlock] at hn
  · obtain ⟨g, hg⟩ := Option.ne_none_iff_exists'.1 hn
    obtain ⟨a, cap, rfl, _, _, h3⟩ := Own.form h
    have hlt := h.lt hg
    have ha : a = some ⟨g, 0, none⟩ := by
      cases a with
      | none => simp [Value.ownBlock] at hg
      | some x =>
        obtain ⟨h4, h5, h6⟩ := h3.2 x rfl
        rw [hg] at h6
        obtain ⟨b, o, s⟩ := x
        simp at h4 h5 h6
        subst h4 h5 h6
        rfl
    subst ha
    have hH : Holds (Value.int .i64) w g 0 l.toArray := by
      have := holdsK_of i64Ok h hg
      intro j hj
      have hj' : j < l.length := by simpa using hj
      have h1 := this j (by rw [size_flatK]; show j < l.toArray.size * 1; simpa using hj)
      have e : (flatK i64C.g i64C.k l.toArray)[j]! = Value.int .i64 l.toArray[j]! := by
        rw [get_flatK _ _ _ j (by show j < l.toArray.size * 1; simpa using hj)]
        show ([Value.int .i64 (l.toArray[j / 1]!)] : List Value)[j % 1]! = _
        rw [Nat.div_one, Nat.mod_one]; rfl
      rw [e] at h1
      exact h1
    have hcon := AnyM.slices_Sort_int Try.sort64 g 0 cap l w hH hlt (by omega)
    change Calls Try.prog 33 _ _ _ at hcon
    refine hcon.mono fun e w' ⟨he, n, os, hw⟩ => ?_
    subst hw
    have hlen : (l.mergeSort fun x y => decide (x ≤ y)).length = l.length := List.length_mergeSort _
    have e1 : putRow (Value.int .i64) (Go.Sort.ahead w n) g 0 (l.mergeSort fun x y => decide (x ≤ y)).toArray = putRow id (Go.Sort.ahead w n) g 0 (flatK i64C.g i64C.k (l.mergeSort fun x y => decide (x ≤ y)).toArray) := by
      generalize (l.mergeSort fun x y => decide (x ≤ y)).toArray = M
      have e2 : flatK i64C.g i64C.k M = M.map (Value.int .i64) := by
        apply Array.ext
        · rw [size_flatK, Array.size_map]; exact Nat.mul_one _
        · intro i h1 h2
          have hi : i < M.size := by simpa using h2
          have hg := get_flatK i64C.g i64C.k M i (by show i < M.size * 1; omega)
          rw [getElem!_pos _ i h1] at hg
          rw [hg, Array.getElem_map]
          show ([Value.int .i64 (M[i / 1]!)] : List Value)[i % 1]! = _
          rw [Nat.div_one, Nat.mod_one, getElem!_pos M i hi]
          rfl
      rw [e2]
      unfold putRow
      congr 1
      funext c
      unfold putCells
      apply Array.ext
      · simp
      · intro i h1 h2
        simp only [Array.getElem_mapIdx, Nat.zero_add, Nat.zero_le, true_and, Array.size_map, Nat.sub_zero, id]
        by_cases hi : i < M.size
        · rw [if_pos hi, if_pos hi, getElem!_pos M i hi, getElem!_pos _ i (by simpa using hi), Array.getElem_map]
        · rw [if_neg hi, if_neg hi]
    rw [e1]
    obtain ⟨h7, h8⟩ := sortWorldK_lst i64Ok h hg n (l.mergeSort fun x y => decide (x ≤ y)).toArray (by simp) os
    exact ⟨he, h7, h8⟩
theorem merge_perm (l : List Int) : (l.mergeSort fun x y => decide (x ≤ y)).Perm l := List.mergeSort_perm _ _
theorem merge_sorted (l : List Int) : (l.mergeSort fun x y => decide (x ≤ y)).Pairwise fun a b => a ≤ b := by
  have h := List.pairwise_mergeSort (le := fun x y : Int => decide (x ≤ y)) (fun a b c h1 h2 => by simp at *; omega) (fun a b => by simp; omega) l
  exact h.imp fun {a b} h => by simpa using h
end Go.Proofs.Ytahahginmgidjaa
