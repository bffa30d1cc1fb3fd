/-
  A skip list in memory: how it lies; the small functions.
  Numbers and texts as bytes, in plain words: no program in sight.
  Items that are put together, and their bytes: plain Lean; no program; no condition.
-/
import Derived.Test.YtljabmkmngbhkaaGreatDoorProg
import Derived.Test.YtljabmkmngbhkaaGreatDoorLay
import Derived.Test.YtljabmkmngbhkaaGreatDoorZMg13
import Derived.Test.YtljabmkmngbhkaaGreatDoorZMg10
import Derived.Deep.DeepCutAuto
import Derived.Deep.RegionHeld3
import Derived.Deep.DrawnRows
import Derived.LoopTactic
import Derived.IntWalk
import Derived.Shelf.Small.Strs
import Derived.Shelf.SlicesG.Cmp
import Derived.Lib.Zigzag
import Derived.Laws.Bits64b
namespace Go.Proofs.YtljabmkmngbhkaaGreatDoor
open Go.RowKit
set_option linter.unusedVariables false
set_option linter.unusedSimpArgs false

/-- An entry in a slice. -/
def entC : Codec EntryV := ⟨fun e => [.string e.key, .int .i64 e.seq, .bool e.gone, .string e.value, .int .i64 e.till], 5, 41, 44, .agg #[.string ⟨#[]⟩, .int .i64 0, .bool false, .string ⟨#[]⟩, .int .i64 0], 56⟩
theorem entOk : (entC).Ok := ⟨fun _ => rfl, by decide, by simp [entC, Value.oneCell'], Tryz.underlying44, by kernel_rfl, by rfl, by decide⟩
def entA (e : EntryV) : Value := .agg #[.string e.key, .int .i64 e.seq, .bool e.gone, .string e.value, .int .i64 e.till]
/-- An entry of int64's, and of texts of a bounded length. -/
structure EntFit (e : EntryV) : Prop where
  k : e.key.size ≤ 140737488355328
  s : -9223372036854775808 ≤ e.seq ∧ e.seq ≤ 9223372036854775807
  v : e.value.size ≤ 140737488355328
  t : -9223372036854775808 ≤ e.till ∧ e.till ≤ 9223372036854775807
def entC0 (e : EntryV) : Array Value := #[.string e.key, .int .i64 e.seq, .bool e.gone, .string e.value, .int .i64 e.till]
/-! ### The order -/
theorem cmpB_eq : ∀ (a b : List UInt8), Lib.compareBytes a b = if Op.bytesLess a b then -1 else if Op.bytesLess b a then 1 else 0
  | [], [] => by simp [Lib.compareBytes, Op.bytesLess]
  | [], _ :: _ => by simp [Lib.compareBytes, Op.bytesLess]
  | _ :: _, [] => by simp [Lib.compareBytes, Op.bytesLess]
  | x :: a, y :: b => by
    have ih := cmpB_eq a b
    simp only [Lib.compareBytes, Op.bytesLess]
    by_cases h1 : x < y
    · simp [h1]
    · by_cases h2 : y < x
      · have : ¬ x = y := fun e => by subst e; exact h1 h2
        simp [h1, h2, this]
      · have : x = y := by
          have h1' : ¬ x.toNat < y.toNat := h1
          have h2' : ¬ y.toNat < x.toNat := h2
          exact UInt8.toNat_inj.1 (by omega)
        subst this
        simp [h1, ih]
theorem cmpE_or (a b : EntryV) : cmpE a b = if Lib.compareBytes a.key.data.toList b.key.data.toList ≠ 0 then Lib.compareBytes a.key.data.toList b.key.data.toList else Lib.compareInt b.seq a.seq := by
  rw [cmpB_eq]
  unfold cmpE sl Lib.compareInt
  rw [ByteArray.toList_eq, ByteArray.toList_eq]
  by_cases h1 : Op.bytesLess a.key.data.toList b.key.data.toList = true
  · simp [h1]
  · by_cases h2 : Op.bytesLess b.key.data.toList a.key.data.toList = true
    · simp [h1, h2]
    · simp [h1, h2]
set_option maxRecDepth 100000 in
set_option maxHeartbeats 4000000 in
theorem co_or (x y : Int) (b : Nat) (w : World) (hb : Blk w b 3 #[.int .i64 x, .int .i64 y]) : Calls Tryz.prog 265 #[.slice (some ⟨b, 0, none⟩) 2 2] w fun e w' => e = .returned (.int .i64 (if x ≠ 0 then x else y)) ∧ w = w' := by
  have x0 := hb.cell 0
  have x1 := hb.cell 1
  simp at x0 x1
  clear hb
  by_cases hx : x = 0
  · subst hx
    rw [if_neg (by simp)]
    by_cases hy : y = 0
    · subst hy
      go_enter Tryz.func265, Tryz.ntmps265
      go_wp2_with fail
      go_loop [5, 8] (fun v i => ∃ k : Nat, k ≤ 2 ∧ i = .int .i64 k) (fun _ i => 2 - (intOf i).toNat)
      case atStart => exact ⟨0, by omega, rfl⟩
      case round =>
        obtain ⟨k, hk, rfl⟩ := hrel
        rcases (by omega : k = 0 ∨ k = 1 ∨ k = 2) with rfl | rfl | rfl
        · go_wp2
          go_round
          case rel => exact ⟨1, by omega, rfl⟩
          case measure => simp [intOf]
        · go_wp2
          go_round
          case rel => exact ⟨2, by omega, rfl⟩
          case measure => simp [intOf]
        · go_wp2
          go_ret
          exact ⟨rfl, rfl⟩
    · have hq : (y == 0) = false := by simp [hy]
      have hq2 : (y != 0) = true := by simp [hy]
      go_enter Tryz.func265, Tryz.ntmps265
      go_wp2_with fail
      go_loop [5, 8] (fun v i => ∃ k : Nat, k ≤ 1 ∧ i = .int .i64 k) (fun _ i => 2 - (intOf i).toNat)
      case atStart => exact ⟨0, by omega, rfl⟩
      case round =>
        obtain ⟨k, hk, rfl⟩ := hrel
        rcases (by omega : k = 0 ∨ k = 1) with rfl | rfl
        · go_wp2
          go_round
          case rel => exact ⟨1, by omega, rfl⟩
          case measure => simp [intOf]
        · go_wp2
          go_ret
          exact ⟨rfl, rfl⟩
  · have hq : (x == 0) = false := by simp [hx]
    have hq2 : (x != 0) = true := by simp [hx]
    rw [if_pos hx]
    go_enter Tryz.func265, Tryz.ntmps265
    go_wp2_with fail
    go_loop [5, 8] (fun v i => i = .int .i64 0) (fun _ i => 2 - (intOf i).toNat)
    case atStart => rfl
    case round =>
      obtain rfl := hrel
      go_wp2
      go_ret
      exact ⟨rfl, rfl⟩
set_option maxRecDepth 100000 in
set_option maxHeartbeats 4000000 in
theorem sk_cmp (a b : EntryV) (w : World) : Calls Tryz.prog 178 #[entA a, entA b] w fun r w' => r = .returned (.int .i64 (cmpE a b)) ∧ Chg (fun _ => False) w w' := by
  obtain ⟨w2, hw2⟩ : ∃ w2, w2 = (w.alloc (.cells (entC0 a) 41)).alloc (.cells (entC0 b) 41) := ⟨_, rfl⟩
  have hb1 : Blk w2 w.heap.size 41 (entC0 a) := by rw [hw2]; exact (Blk.new _ _ _).alloc _
  have hb2 : Blk w2 (w.heap.size + 1) 41 (entC0 b) := by rw [hw2]; exact Blk.new1 _ _ _ _
  have hc2 : Chg (fun _ => False) w w2 := by rw [hw2]; exact ((Chg.refl _ _).alloc _).alloc _
  have x0 := hb1.cell 0
  have x1 := hb1.cell 1
  have y0 := hb2.cell 0
  have y1 := hb2.cell 1
  simp [entC0] at x0 x1 y0 y1
  have hcs := fun W' => Any.strings_Compare Tryz.strCmp a.key b.key W'
  change ∀ W', Calls Tryz.prog 191 _ _ _ at hcs
  have hci := fun W' => AnyG.cmp_Compare_int Tryz.cmp64 b.seq a.seq W'
  change ∀ W', Calls Tryz.prog 250 _ _ _ at hci
  rw [cmpE_or]
  generalize Lib.compareBytes a.key.data.toList b.key.data.toList = r at hcs ⊢
  generalize Lib.compareInt b.seq a.seq = q at hci ⊢
  have hor := fun b W (hb : Blk W b 3 #[.int .i64 r, .int .i64 q]) => co_or r q b W hb
  generalize (if r ≠ 0 then r else q) = v at hor ⊢
  obtain ⟨g, hg⟩ : ∃ g, w.heap.size = g := ⟨_, rfl⟩
  rw [hg] at x0 x1 y0 y1
  have HW2 := Lib.hid hw2
  have HC2 := Lib.hid hc2
  have HCS := Lib.hid hcs
  have HCI := Lib.hid hci
  have HG := Lib.hid hg
  have HOR := Lib.hid hor
  clear hw2 hc2 hcs hci hg hor
  clear hb1 hb2
  unfold entA
  go_enter Tryz.func178, Tryz.ntmps178
  go_upto_region 1 with fail
  unfold entC0 at HW2
  rw [HG.out] at *
  rw [← HW2.out]
  go_region_held3 (fun w' => w'.cell? ⟨g, 0, none⟩ = some (.string a.key) ∧ w'.cell? ⟨g, 1, none⟩ = some (.int .i64 a.seq) ∧ w'.cell? ⟨g + 1, 0, none⟩ = some (.string b.key) ∧ w'.cell? ⟨g + 1, 1, none⟩ = some (.int .i64 b.seq))
    (go_keep)
    (first
      | (go_at_call 191; refine (HCS.out _).mono ?_; rintro e w' ⟨rfl, rfl⟩)
      | (go_at_call 250; refine (HCI.out _).mono ?_; rintro e w' ⟨rfl, rfl⟩)
      | (go_at_call 265; refine (HOR.out _ _ (by first | exact Blk.new _ _ _ | exact Blk.drew (Blk.new _ _ _))).mono ?_; rintro e w' ⟨rfl, rfl⟩))
  all_goals go_wp2_with fail
  all_goals go_ret
  all_goals exact ⟨rfl, HC2.out.then cgS⟩
set_option maxRecDepth 100000 in
set_option maxHeartbeats 4000000 in
theorem sk_less (a b : EntryV) (w : World) : Calls Tryz.prog 110 #[entA a, entA b] w fun r w' => r = .returned (.bool (lessE a b)) ∧ Chg (fun _ => False) w w' := by
  have hc := fun W => sk_cmp a b W
  unfold lessE
  generalize cmpE a b = r at hc ⊢
  have HC := Lib.hid hc
  clear hc
  unfold entA at *
  go_enter Tryz.func110, Tryz.ntmps110
  go_wp2_with fail
  refine (HC.out _).mono ?_
  rintro e w' ⟨rfl, hc⟩
  have HC2 := Lib.hid (Chg.then (S := fun _ => False) (((Chg.refl _ w).alloc _).alloc _) hc)
  clear hc
  go_wp2_with fail
  go_ret
  exact ⟨rfl, HC2.out⟩
/-! ### The list -/
/-- The links of a tower of h floors: the next towers among those behind it. -/
def Links (w : World) (b h : Nat) (D : List NodeV) : Prop := ∃ cs : Array Value, Blk w b 194 cs ∧ cs.size = h ∧ ∀ f, f < h → cs[f]? = some (tptr (nextF D f))
def NodeAt (w : World) (n : NodeV) : Prop := Blk w n.b 146 #[.string n.e.key, .int .i64 n.e.seq, .bool n.e.gone, .string n.e.value, .int .i64 n.e.till, .slice (some ⟨n.nb, 0, none⟩) n.h n.h]
/-- The coins: a list of int's that nobody changes. -/
def CoinsAt (w : World) (v : Value) (l : List Int) : Prop := ∃ a cap, v = .slice a l.length cap ∧ l.length ≤ cap ∧ l.length ≤ 1000000 ∧ (∀ c ∈ l, -9223372036854775808 ≤ c ∧ c ≤ 9223372036854775807) ∧ (l.length ≠ 0 → ∃ b, a = some ⟨b, 0, none⟩ ∧ b < w.heap.size ∧ ∀ i x, l[i]? = some x → w.cell? ⟨b, i, none⟩ = some (.int .i64 x))
/-- The blocks of a list. -/
def SkFoot (l hb : Nat) (N : List NodeV) (k : Nat) : Prop := k = l ∨ k = hb ∨ ∃ n ∈ N, k = n.b ∨ k = n.nb
structure SkipAt (w : World) (l hb : Nat) (cv : Value) (coins : List Int) (N : List NodeV) (size : Int) : Prop where
  blk : Blk w l 148 #[cv, .string ⟨#[]⟩, .int .i64 0, .bool false, .string ⟨#[]⟩, .int .i64 0, .slice (some ⟨hb, 0, none⟩) 8 8, .int .i64 (N.length : Int), .int .i64 size]
  coin : CoinsAt w cv coins
  coff : ∀ k, coins.length ≠ 0 → cv.ownBlock = some k → ¬ SkFoot l hb N k
  head : Links w hb 8 N
  nodes : ∀ A n R, N = A ++ n :: R → NodeAt w n ∧ Links w n.nb n.h R
  ord : OrdN N
  fit : ∀ n ∈ N, EntFit n.e ∧ 1 ≤ n.h ∧ n.h ≤ 8
  apart : (hb :: N.map (·.nb)).Nodup
  sz : 0 ≤ size ∧ size ≤ 1000000 * N.length
  len : N.length ≤ 1000000000
theorem CoinsAt.lt {w : World} {v : Value} {l : List Int} (h : CoinsAt w v l) (h0 : l.length ≠ 0) {k : Nat} (hk : v.ownBlock = some k) : k < w.heap.size := by
  obtain ⟨a, cap, rfl, h1, h2, h3, h4⟩ := h
  obtain ⟨b, rfl, hb, hr⟩ := h4 h0
  simp [Value.ownBlock] at hk
  omega
theorem CoinsAt.chg {w w' : World} {v : Value} {l : List Int} {S : Nat → Prop} (h : CoinsAt w v l) (hc : Chg S w w') (hS : ∀ k, l.length ≠ 0 → v.ownBlock = some k → ¬ S k) : CoinsAt w' v l := by
  obtain ⟨a, cap, rfl, h1, h2, h3, h4⟩ := h
  refine ⟨a, cap, rfl, h1, h2, h3, fun h0 => ?_⟩
  obtain ⟨b, rfl, hb, hr⟩ := h4 h0
  exact ⟨b, rfl, Nat.lt_of_lt_of_le hb hc.size, fun i x hx => (hc.cell (p := ⟨b, i, none⟩) hb (hS b h0 rfl)).trans (hr i x hx)⟩
theorem Links.chg {w w' : World} {b h : Nat} {D : List NodeV} {S : Nat → Prop} (hl : Links w b h D) (hc : Chg S w w') (hS : ¬ S b) : Links w' b h D := by
  obtain ⟨cs, h1, h2, h3⟩ := hl
  exact ⟨cs, h1.chg hc hS, h2, h3⟩
section
variable {w w' : World} {l hb : Nat} {cv : Value} {coins : List Int} {N : List NodeV} {size : Int} {S : Nat → Prop}
theorem SkipAt.chg (h : SkipAt w l hb cv coins N size) (hc : Chg S w w') (hS : ∀ k, SkFoot l hb N k → ¬ S k) (hC : ∀ k, coins.length ≠ 0 → cv.ownBlock = some k → ¬ S k) : SkipAt w' l hb cv coins N size :=
  { h with
    blk := h.blk.chg hc (hS _ (.inl rfl))
    coin := h.coin.chg hc hC
    head := h.head.chg hc (hS _ (.inr (.inl rfl)))
    nodes := fun A n R e => by
      obtain ⟨h1, h2⟩ := h.nodes A n R e
      have hn : n ∈ N := by rw [e]; simp
      exact ⟨Blk.chg h1 hc (hS _ (.inr (.inr ⟨n, hn, .inl rfl⟩))), h2.chg hc (hS _ (.inr (.inr ⟨n, hn, .inr rfl⟩)))⟩ }
theorem SkipAt.same (h : SkipAt w l hb cv coins N size) (hc : Chg (fun _ => False) w w') : SkipAt w' l hb cv coins N size := h.chg hc (by simp) (by simp)
theorem SkipAt.lt (h : SkipAt w l hb cv coins N size) : ∀ k, SkFoot l hb N k → k < w.heap.size := by
  rintro k (rfl | rfl | ⟨n, hn, hk⟩)
  · exact h.blk.lt
  · obtain ⟨cs, h1, _⟩ := h.head
    exact h1.lt
  · obtain ⟨A, R, e⟩ := List.append_of_mem hn
    obtain ⟨h1, cs, h2, _⟩ := h.nodes A n R e
    rcases hk with rfl | rfl
    · exact Blk.lt h1
    · exact h2.lt
end
/-! ### The small functions -/
set_option maxRecDepth 100000 in
set_option maxHeartbeats 4000000 in
theorem sk_len (l hb : Nat) (cv : Value) (coins : List Int) (N : List NodeV) (size : Int) (w : World) (h : SkipAt w l hb cv coins N size) : Calls Tryz.prog 68 #[.pointer (some ⟨l, 0, none⟩)] w fun r w' => r = .returned (.int .i64 (N.length : Int)) ∧ w = w' := by
  have y0 := h.blk.cell 0
  have y1 := h.blk.cell 1
  have y2 := h.blk.cell 2
  have y3 := h.blk.cell 3
  have y4 := h.blk.cell 4
  have y5 := h.blk.cell 5
  have y6 := h.blk.cell 6
  have y7 := h.blk.cell 7
  have y8 := h.blk.cell 8
  simp at y0 y1 y2 y3 y4 y5 y6 y7 y8
  clear h
  go_enter Tryz.func68, Tryz.ntmps68
  go_wp2
  go_ret
  exact ⟨rfl, rfl⟩
set_option maxRecDepth 100000 in
set_option maxHeartbeats 4000000 in
theorem sk_size (l hb : Nat) (cv : Value) (coins : List Int) (N : List NodeV) (size : Int) (w : World) (h : SkipAt w l hb cv coins N size) : Calls Tryz.prog 35 #[.pointer (some ⟨l, 0, none⟩)] w fun r w' => r = .returned (.int .i64 size) ∧ w = w' := by
  have y0 := h.blk.cell 0
  have y1 := h.blk.cell 1
  have y2 := h.blk.cell 2
  have y3 := h.blk.cell 3
  have y4 := h.blk.cell 4
  have y5 := h.blk.cell 5
  have y6 := h.blk.cell 6
  have y7 := h.blk.cell 7
  have y8 := h.blk.cell 8
  simp at y0 y1 y2 y3 y4 y5 y6 y7 y8
  clear h
  go_enter Tryz.func35, Tryz.ntmps35
  go_wp2
  go_ret
  exact ⟨rfl, rfl⟩
end Go.Proofs.YtljabmkmngbhkaaGreatDoor
namespace Go.Proofs.YtljabmkmngbhkaaGreatDoor
set_option linter.unusedVariables false
set_option linter.unusedSimpArgs false

/-- The bytes of a number. -/
def putV (n : Int) : List UInt8 := Lib.uvarint (Lib.zigzag n)
/-- The way there: 'uint64(n<<1) ^ uint64(n>>63)'. -/
theorem zz_pos (n : Int) (h0 : 0 ≤ n) (h1 : n ≤ 9223372036854775807) : bits .xor .u64 (IntKind.u64.wrap (IntKind.i64.wrap (n * 2))) 0 = ((Lib.zigzag n : Nat) : Int) := by
  have e1 : IntKind.u64.wrap (IntKind.i64.wrap (n * 2)) = (((2 * n).toNat : Nat) : Int) := by
    rw [IntKind.wrap_i64, IntKind.wrap_u64]
    omega
  have e2 : (0 : Int) = ((0 : Nat) : Int) := rfl
  rw [e1, e2, bits_xor_u64_nat _ _ (by omega) (by decide), Nat.xor_zero]
  unfold Lib.zigzag
  rw [if_pos h0]
theorem zz_neg (n : Int) (h0 : -9223372036854775808 ≤ n) (hn : n < 0) : bits .xor .u64 (IntKind.u64.wrap (IntKind.i64.wrap (n * 2))) 18446744073709551615 = ((Lib.zigzag n : Nat) : Int) := by
  have e1 : IntKind.u64.wrap (IntKind.i64.wrap (n * 2)) = (((2 * n + 18446744073709551616).toNat : Nat) : Int) := by
    rw [IntKind.wrap_i64, IntKind.wrap_u64]
    omega
  have e2 : (18446744073709551615 : Int) = ((2 ^ 64 - 1 : Nat) : Int) := by decide
  rw [e1, e2, bits_xor_u64_nat _ _ (by omega) (by decide), Nat.xor_comm, Lib.xor_ones64 _ (by omega)]
  unfold Lib.zigzag
  rw [if_neg (by omega)]
  omega
theorem zz_lt {n : Int} (h0 : -9223372036854775808 ≤ n) (h1 : n ≤ 9223372036854775807) : Lib.zigzag n < 18446744073709551616 := by
  unfold Lib.zigzag
  split <;> omega
end Go.Proofs.YtljabmkmngbhkaaGreatDoor
namespace Go.Proofs.YtljabmkmngbhkaaGreatDoor
open Go.RowKit
set_option linter.unusedVariables false
set_option linter.unusedSimpArgs false

/-- May the entry be put into a skip list? -/
def goodK (e : EntryV) : Int := if e.key.size > 64 ∨ e.value.size > 512 then 5 else if e.key.size = 0 ∨ e.seq < 1 ∨ e.till < 0 ∨ (e.gone = true ∧ (e.value.size ≠ 0 ∨ e.till ≠ 0)) then 2 else 0
/-- .. be an item? -/
def goodI (e : EntryV) : Int := if goodK { e with seq := 1 } ≠ 0 then goodK { e with seq := 1 } else if e.till = 9223372036854775807 then 2 else 0
def putI (e : EntryV) : List UInt8 := putV (e.key.size : Int) ++ e.key.data.toList ++ if e.gone then putV 0 else putV (e.till + 1) ++ (putV (e.value.size : Int) ++ e.value.data.toList)
def putIs (l : List EntryV) : List UInt8 := putV (l.length : Int) ++ l.flatMap putI
def numE (seq : Int) (l : List EntryV) : List EntryV := l.mapIdx fun i e => { e with seq := seq + i }
def sizeE (l : List EntryV) : Nat := (l.map fun e => e.key.size + e.value.size).sum
theorem goodI_zero {e : EntryV} (h : goodI e = 0) (ht : e.till ≤ 9223372036854775807) : e.key.size ≤ 64 ∧ e.value.size ≤ 512 ∧ e.key.size ≠ 0 ∧ 0 ≤ e.till ∧ e.till < 9223372036854775807 := by
  unfold goodI goodK at h
  simp only at h
  by_cases h1 : e.key.size > 64 ∨ e.value.size > 512
  · simp [h1] at h
  · by_cases h2 : e.key.size = 0 ∨ (1 : Int) < 1 ∨ e.till < 0 ∨ (e.gone = true ∧ (e.value.size ≠ 0 ∨ e.till ≠ 0))
    · simp only [h1, h2, if_false, if_true] at h
      simp at h
    · simp only [h1, h2, if_false] at h
      by_cases h3 : e.till = 9223372036854775807
      · simp [h3] at h
      · refine ⟨by omega, by omega, fun e0 => h2 (.inl e0), ?_, ?_⟩
        · rcases (by omega : e.till < 0 ∨ 0 ≤ e.till) with g | g
          · exact absurd (.inr (.inr (.inl g))) h2
          · exact g
        · omega
end Go.Proofs.YtljabmkmngbhkaaGreatDoor
