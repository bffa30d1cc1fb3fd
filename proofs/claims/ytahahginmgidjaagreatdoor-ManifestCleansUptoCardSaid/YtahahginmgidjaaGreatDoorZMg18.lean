/-
  strings.Builder: WriteString and String of a builder that a call has made itself. The shelf's contracts at this seat's numbers.
  The program's texts as bytes; many numbers as bytes.
  The document's numbers and texts as bytes.
-/
import Derived.Test.YtahahginmgidjaaGreatDoorLay
import Derived.Test.YtahahginmgidjaaGreatDoorZMg00
import Derived.Test.YtahahginmgidjaaGreatDoorProg
import Derived.Shelf.Strings.BuilderK
import Derived.Test.YtahahginmgidjaaGreatDoorZMg16
import Derived.Test.YtahahginmgidjaaGreatDoorZVerH
import Derived.Deep.DeepCutAuto
namespace Go.Proofs.YtahahginmgidjaaGreatDoor
open Go.RowKit Go.Shelf
set_option linter.unusedVariables false
set_option linter.unusedSimpArgs false

def bldR : Ren := ⟨fun | 166 => 152 | 240 => 192 | 276 => 234 | n => n, fun | 0 => 0 | 3 => 3 | 4 => 4 | 5 => 5 | 9 => 9 | 20 => 20 | 37 => 88 | 70 => 235 | 72 => 237 | 75 => 224 | 80 => 199 | 164 => 308 | n => n, fun n => n⟩
theorem bldL : Lays.n166 Tryz.prog bldR where
  mixed := by kernel_rfl
  f166 := Tryz.func152.trans (congrArg some (by kernel_rfl))
  f240 := Tryz.func192.trans (congrArg some (by kernel_rfl))
  f276 := Tryz.func234.trans (congrArg some (by kernel_rfl))
  t0 := Tryz.underlying0
  a0 := Tryz.isAgg0
  z0 := Tryz.sizeOf0
  v0 := Tryz.zeroValue0
  t3 := Tryz.underlying3
  a3 := Tryz.isAgg3
  z3 := Tryz.sizeOf3
  v3 := Tryz.zeroValue3
  t4 := Tryz.underlying4
  a4 := Tryz.isAgg4
  z4 := Tryz.sizeOf4
  v4 := Tryz.zeroValue4
  t9 := Tryz.underlying9
  a9 := Tryz.isAgg9
  z9 := Tryz.sizeOf9
  v9 := Tryz.zeroValue9
  t20 := Tryz.underlying20
  a20 := Tryz.isAgg20
  z20 := Tryz.sizeOf20
  v20 := Tryz.zeroValue20
  t37 := Tryz.underlying88
  a37 := Tryz.isAgg88
  z37 := Tryz.sizeOf88
  v37 := Tryz.zeroValue88
  t70 := Tryz.underlying235
  a70 := Tryz.isAgg235
  z70 := Tryz.sizeOf235
  v70 := Tryz.zeroValue235
  t72 := Tryz.underlying237
  a72 := Tryz.isAgg237
  z72 := Tryz.sizeOf237
  v72 := Tryz.zeroValue237
  t75 := Tryz.underlying224
  a75 := Tryz.isAgg224
  z75 := Tryz.sizeOf224
  v75 := Tryz.zeroValue224
  t164 := Tryz.underlying308
  a164 := Tryz.isAgg308
  z164 := Tryz.sizeOf308
  v164 := Tryz.zeroValue308
theorem bldX : Builder.Extra Tryz.prog bldR where
  sizeBuilder := by kernel_rfl
  liesBuilder := by kernel_rfl
  t5 := Tryz.underlying5
  a5 := Tryz.isAgg5
  z5 := Tryz.sizeOf5
  v5 := Tryz.zeroValue5
  infoByte := by kernel_rfl
  cellsByte := by kernel_rfl
  sizeByte := by kernel_rfl
  neB5 := by decide
theorem bldY : Builder.Extra Tryz.prog Tryz.blString_ren where
  sizeBuilder := by kernel_rfl
  liesBuilder := by kernel_rfl
  t5 := Tryz.underlying5
  a5 := Tryz.isAgg5
  z5 := Tryz.sizeOf5
  v5 := Tryz.zeroValue5
  infoByte := by kernel_rfl
  cellsByte := by kernel_rfl
  sizeByte := by kernel_rfl
  neB5 := by decide
/-- The builder of block b holds the bytes l; it and its row lie at B or behind it. -/
def BldAt (B b : Nat) (l : List UInt8) (w : World) : Prop := Lib.IsBuilderF 237 5 B b (Lib.byteCells l) w
theorem bld_new (w : World) : BldAt w.heap.size w.heap.size [] (w.alloc (.cells #[.pointer none, .slice none 0 0] 237)) := Lib.IsBuilderF.of (Lib.fresh_isBuilder _ _ w)
theorem bld_at_below {T e : TypeId} {B b : Nat} {p : Value} {bs : List Value} {W W' : World} (h : Lib.BuilderAtF T e B b p bs W) (hb : Below W.heap.size W W') : Lib.BuilderAtF T e B b p bs W' := by
  have hlt := h.lt
  obtain ⟨hB, v, hv, hown, hne⟩ := h
  exact ⟨hB, v, (hb.block b hlt).trans hv, hown.kept (row := none) ⟨hb.os, hb.tape, hb.output, hb.size, fun k hk _ => hb.block k hk⟩ (Classical.em _), hne⟩
theorem BldAt.chg {B b : Nat} {l : List UInt8} {w w' : World} (h : BldAt B b l w) (hc : Chg (fun _ => False) w w') : BldAt B b l w' :=
  h.elim (fun x => .inl (bld_at_below x hc.below)) (fun x => .inr (bld_at_below x hc.below))
theorem bl_write (B b : Nat) (l : List UInt8) (s : ByteArray) (w : World) (h : BldAt B b l w) (hl : l.length + s.size ≤ 140737488355328) (hB : B ≤ w.heap.size) :
    Calls Tryz.prog 152 #[.pointer (some ⟨b, 0, none⟩), .string s] w fun e w' => e = .returned (.tuple #[.int .i64 s.size, .nilIface]) ∧ BldAt B b (l ++ s.data.toList) w' ∧ Chg (fun k => B ≤ k) w w' := by
  have h1 := Any.Builder_WriteString_k bldL bldX B b (Lib.byteCells l) s w h (by rw [Lib.byteCells_length]; exact hl) hB
  refine Calls.mono h1 fun e w' ⟨he, hb, hbl, _⟩ => ⟨he, ?_, ⟨hbl.os, hbl.tape, hbl.output, hbl.size, fun k hk hn => hbl.block k (by omega)⟩⟩
  rw [Lib.strCells_eq, ← Lib.byteCells_append] at hb
  exact .inr hb
/-- .. and whatever is neither the builder nor a row of bytes stands as it stood. -/
theorem bl_write_k (B b : Nat) (l : List UInt8) (s : ByteArray) (w : World) (h : BldAt B b l w) (hl : l.length + s.size ≤ 140737488355328) (hB : B ≤ w.heap.size) :
    Calls Tryz.prog 152 #[.pointer (some ⟨b, 0, none⟩), .string s] w fun e w' => e = .returned (.tuple #[.int .i64 s.size, .nilIface]) ∧ BldAt B b (l ++ s.data.toList) w' ∧ Chg (fun k => B ≤ k) w w' ∧ (∀ g t cs, Blk w g t cs → g ≠ b → t ≠ 5 → Blk w' g t cs) := by
  have h1 := Any.Builder_WriteString_k bldL bldX B b (Lib.byteCells l) s w h (by rw [Lib.byteCells_length]; exact hl) hB
  refine Calls.mono h1 fun e w' ⟨he, hb, hbl, ho⟩ => ⟨he, ?_, ⟨hbl.os, hbl.tape, hbl.output, hbl.size, fun k hk hn => hbl.block k (by omega)⟩, fun g t cs hk hg ht => ?_⟩
  · rw [Lib.strCells_eq, ← Lib.byteCells_append] at hb
    exact .inr hb
  · refine ho g _ hk (fun e => hg (Option.some.inj e)) fun c fz e => ?_
    injection e with _ e _
    exact ht e
theorem ren_bls : Tryz.blString_ren.f 169 = 156 := by kernel_rfl
theorem bl_string (B b : Nat) (l : List UInt8) (w : World) (h : BldAt B b l w) (hB : B ≤ w.heap.size) :
    Calls Tryz.prog 156 #[.pointer (some ⟨b, 0, none⟩)] w fun e w' => e = .returned (.string ⟨l.toArray⟩) ∧ Chg (fun k => B ≤ k) w w' := by
  have h1 := Any.Builder_String_any_k Tryz.blString bldY B b l w h hB
  rw [ren_bls] at h1
  exact Calls.mono h1 fun e w' ⟨he, _, hbl, _⟩ => ⟨he, ⟨hbl.os, hbl.tape, hbl.output, hbl.size, fun k hk hn => hbl.block k (by omega)⟩⟩
end Go.Proofs.YtahahginmgidjaaGreatDoor
namespace Go.Proofs.YtahahginmgidjaaGreatDoor
open Go.RowKit
set_option linter.unusedVariables false
set_option linter.unusedSimpArgs false

/-- The bytes of a text. -/
def putT (s : ByteArray) : List UInt8 := putV (s.size : Int) ++ s.data.toList
theorem putV_len {n : Int} (h0 : -9223372036854775808 ≤ n) (h1 : n ≤ 9223372036854775807) : (putV n).length ≤ 10 := Lib.uvarint_length64 (zz_lt h0 h1)
theorem putT_len {s : ByteArray} (h : s.size ≤ 9223372036854775807) : (putT s).length ≤ 10 + s.size := by
  unfold putT
  have := putV_len (n := (s.size : Int)) (by omega) (by omega)
  rw [List.length_append, bs_len]
  omega
set_option maxRecDepth 100000 in
set_option maxHeartbeats 2000000 in
theorem va_puttext (s : ByteArray) (hs : s.size ≤ 281474976710656) (w : World) : Calls Tryz.prog 155 #[.string s] w fun e w' => e = .returned (.string ⟨(putT s).toArray⟩) ∧ Chg (fun _ => False) w w' := by
  have hp := va_put (s.size : Int) (by omega) (by omega) w
  have hl := putV_len (n := (s.size : Int)) (by omega) (by omega)
  obtain ⟨T, hT⟩ : ∃ T : ByteArray, (⟨(putV (s.size : Int)).toArray⟩ : ByteArray) = T := ⟨_, rfl⟩
  have hTs : T.size ≤ 10 := by rw [← hT]; show (putV (s.size : Int)).toArray.size ≤ 10; rw [List.size_toArray]; exact hl
  have hr : (⟨(putT s).toArray⟩ : ByteArray) = T ++ s := by
    apply bs_eq
    rw [← hT]
    simp [putT]
  rw [hT] at hp
  have hadd := cat_ok T s (by omega)
  have HP := Lib.hid hp
  have HR := Lib.hid hr
  clear hp hr hT hl
  go_enter Tryz.func155, Tryz.ntmps155
  go_wp2_with fail
  refine HP.out.mono ?_
  rintro e w1 ⟨rfl, hc1⟩
  have HC1 := Lib.hid hc1
  clear hc1
  go_wp2_with fail
  go_ret
  exact ⟨by rw [HR.out]; rfl, HC1.out⟩
def TextAt (s : List UInt8) (k : Nat) (e : Ending) : Prop := match textV s k with
  | .inl (t, j) => e = .returned (.tuple #[.string ⟨t.toArray⟩, .int .i64 (j : Int), .int .i64 0])
  | .inr c => e = .returned (.tuple #[.string ⟨#[]⟩, .int .i64 0, .int .i64 c])
theorem getV_err {s : List UInt8} {k : Nat} {c : Int} (h : getV s k = .inr c) : c = 3 ∨ c = 4 := by
  have go : ∀ (l : List UInt8) (i acc : Nat) (c : Int), getGo i acc l = .inr c → c = 3 ∨ c = 4 := by
    intro l
    induction l with
    | nil => intro i acc c h; rw [getGo_nil] at h; injection h with h; exact .inl h.symm
    | cons b r ih =>
      intro i acc c h
      rw [getGo_cons] at h
      split at h
      · injection h with h; exact .inr h.symm
      · split at h
        · cases h
        · exact ih _ _ _ h
  unfold getV at h
  split at h
  · cases h
  · rename_i e hg
    injection h with h
    subst h
    exact go _ _ _ _ hg
theorem unzz_in {u : Nat} (h : u < 18446744073709551616) : -9223372036854775808 ≤ unzz u ∧ unzz u ≤ 9223372036854775807 := by
  unfold unzz
  split <;> omega
theorem getGo_lt : ∀ (l : List UInt8) (i acc u c : Nat), getGo i acc l = .inl (u, c) → i ≤ 9 → acc < 128 ^ i → u < 18446744073709551616
  | [], i, acc, u, c, h, _, _ => by rw [getGo_nil] at h; cases h
  | b :: r, i, acc, u, c, h, hi, ha => by
    have hb : b.toNat < 256 := b.toNat_lt
    rw [getGo_cons] at h
    split at h
    · cases h
    · rename_i hbad
      have h9 : i = 9 → b.toNat ≤ 1 := fun e => by
        rcases Nat.lt_or_ge 1 b.toNat with h1 | h1
        · exact absurd (.inl ⟨e, h1⟩) hbad
        · exact h1
      obtain ⟨_, _, o3⟩ := or_step (m := b.toNat % 128) ha hi (by omega) (fun e => by have := h9 e; omega)
      split at h
      · injection h with h
        injection h with h1 h2
        rw [show b.toNat % 128 = b.toNat by omega] at o3
        omega
      · rename_i hge
        refine getGo_lt r _ _ _ _ h ?_ (acc_step ha (by omega))
        rcases Nat.lt_or_ge i 9 with h1 | h1
        · omega
        · have := h9 (by omega); omega
theorem getV_in {s : List UInt8} {k : Nat} {n : Int} {j : Nat} (h : getV s k = .inl (n, j)) : -9223372036854775808 ≤ n ∧ n ≤ 9223372036854775807 := by
  unfold getV at h
  split at h
  · rename_i u c hg
    injection h with h
    injection h with h1 h2
    rw [← h1]
    exact unzz_in (getGo_lt _ _ _ _ _ hg (by omega) (by decide))
  · cases h
set_option maxRecDepth 100000 in
set_option maxHeartbeats 2000000 in
theorem va_gettext (s : ByteArray) (k : Nat) (hk : k ≤ s.size) (hs : s.size ≤ 281474976710656) (w : World) : Calls Tryz.prog 158 #[.string s, .int .i64 (k : Int)] w fun e w' => TextAt s.data.toList k e ∧ w = w' := by
  have hg := va_get s k hk hs w
  have e4 := bs_len s
  have HG := Lib.hid hg
  have HE4 := Lib.hid e4
  clear hg
  go_enter Tryz.func158, Tryz.ntmps158
  go_wp2_with fail
  refine HG.out.mono ?_
  rintro e w1 ⟨hga, rfl⟩
  unfold GetAt at hga
  cases hv : getV s.data.toList k with
  | inr c =>
    rw [hv] at hga
    simp only at hga
    subst hga
    have hc := getV_err hv
    have hq : (c != 0) = true := by rcases hc with rfl | rfl <;> rfl
    have hq2 : (c == 0) = false := by rcases hc with rfl | rfl <;> rfl
    have ht : textV s.data.toList k = .inr c := by unfold textV; rw [hv]
    have HT := Lib.hid ht
    clear hv ht hc
    go_wp2_with fail
    all_goals first | (exfalso; simp_all; done) | skip
    go_ret3
    exact ⟨by unfold TextAt; rw [HT.out]; rfl, by first | rfl | trivial⟩
  | inl x =>
    obtain ⟨n, j⟩ := x
    rw [hv] at hga
    simp only at hga
    subst hga
    obtain ⟨j1, j2⟩ := getV_le (by rw [e4]; exact hk) hv
    obtain ⟨n1, n2⟩ := getV_in hv
    rw [e4] at j2
    have ht : textV s.data.toList k = if n < 0 then .inr 4 else if n > 65535 then .inr 5 else if (s.size : Int) - j < n then .inr 3 else .inl ((s.data.toList.drop j).take n.toNat, j + n.toNat) := by unfold textV; rw [hv, ← e4]
    have HT := Lib.hid ht
    clear hv ht e4
    by_cases c1 : n < 0
    · have d1 : decide (n < 0) = true := decide_eq_true c1
      have h2 := HT.out
      rw [if_pos c1] at h2
      have H2 := Lib.hid h2
      clear h2 c1
      go_wp2_with fail
      go_ret3
      exact ⟨by unfold TextAt; rw [H2.out]; rfl, by first | rfl | trivial⟩
    · have d1 : decide (n < 0) = false := decide_eq_false c1
      by_cases c2 : n > 65535
      · have d2 : decide (n > 65535) = true := decide_eq_true c2
        have h2 := HT.out
        rw [if_neg c1, if_pos c2] at h2
        have H2 := Lib.hid h2
        clear h2 c1 c2
        go_wp2_with fail
        go_ret3
        exact ⟨by unfold TextAt; rw [H2.out]; rfl, by first | rfl | trivial⟩
      · have d2 : decide (n > 65535) = false := decide_eq_false c2
        by_cases c3 : (s.size : Int) - j < n
        · have d3 : decide ((s.size : Int) - j < n) = true := decide_eq_true c3
          have h2 := HT.out
          rw [if_neg c1, if_neg c2, if_pos c3] at h2
          have H2 := Lib.hid h2
          clear h2 c1 c2
          go_wp2_with fail
          go_ret3
          exact ⟨by unfold TextAt; rw [H2.out]; rfl, by first | rfl | trivial⟩
        · have d3 : decide ((s.size : Int) - j < n) = false := decide_eq_false c3
          have h2 := HT.out
          rw [if_neg c1, if_neg c2, if_neg c3] at h2
          have H2 := Lib.hid h2
          obtain ⟨m, rfl⟩ : ∃ m : Nat, n = (m : Int) := ⟨n.toNat, by omega⟩
          obtain ⟨T, hTe⟩ : ∃ T, s.extract j (j + m) = T := ⟨_, rfl⟩
          have hsl := run_slice_string (P := Tryz.prog) w 9 s .i64 .i64 (j : Int) ((j : Int) + m) Tryz.underlying9 (by omega) (by omega) (by omega)
          rw [show ((j : Int) + m).toNat = j + m by omega, show (j : Int).toNat = j by omega, hTe] at hsl
          have hTl : (⟨((s.data.toList.drop j).take m).toArray⟩ : ByteArray) = T := bs_eq (by rw [← hTe, bs_ext, List.drop_take, Nat.add_sub_cancel_left])
          have HTL := Lib.hid hTl
          clear h2 hTe hTl
          go_wp2_with fail
          go_ret3
          exact ⟨by unfold TextAt; rw [H2.out]; simp only [Int.toNat_natCast]; rw [HTL.out, Int.natCast_add]; rfl, by first | rfl | trivial⟩
/-- The bytes of many numbers. -/
def putA (l : List Int) : List UInt8 := l.flatMap putV
theorem putA_len {l : List Int} (h : ∀ n ∈ l, -9223372036854775808 ≤ n ∧ n ≤ 9223372036854775807) : (putA l).length ≤ 10 * l.length := by
  induction l with
  | nil => simp [putA]
  | cons n r ih =>
    have h1 := putV_len (h n (by simp)).1 (h n (by simp)).2
    have h2 := ih fun m hm => h m (by simp [hm])
    have e : putA (n :: r) = putV n ++ putA r := by simp [putA]
    rw [e, List.length_append, List.length_cons]
    omega
theorem putA_add (A : List Int) (n : Int) : putA (A ++ [n]) = putA A ++ putV n := by simp [putA]
set_option maxRecDepth 100000 in
set_option maxHeartbeats 2000000 in
theorem va_putall (v : Value) (l : List Int) (w : World) (hL : ReadInts w v l) (hfit : ∀ n ∈ l, -9223372036854775808 ≤ n ∧ n ≤ 9223372036854775807) (hlen : l.length ≤ 1000000000) : Calls Tryz.prog 153 #[v] w fun e w' => e = .returned (.string ⟨(putA l).toArray⟩) ∧ Chg (fun _ => False) w w' := by
  obtain ⟨a, cap, rfl, h1, h2, hread⟩ := hL
  obtain ⟨w1, hw1⟩ : ∃ w1, w1 = w.alloc (.cells #[.pointer none, .slice none 0 0] 237) := ⟨_, rfl⟩
  have hc1 : Chg (fun _ => False) w w1 := by rw [hw1]; ((repeat (first | exact Chg.refl _ _ | assumption | refine Chg.drewN ?_ _ | refine Chg.drew ?_ | refine Chg.alloc ?_ _ | refine Chg.setCell ?_ (by first | (simp; done) | (simp; omega) | (intro h; simp at h; omega)) _)))
  have hb1 : BldAt w.heap.size w.heap.size [] w1 := by rw [hw1]; exact bld_new w
  have HW1 := Lib.hid hw1
  have HC1 := Lib.hid hc1
  have HB1 := Lib.hid hb1
  have HREAD := Lib.hid hread
  have HFIT := Lib.hid hfit
  clear hw1 hc1 hb1 hread hfit
  go_enter Tryz.func153, Tryz.ntmps153
  go_upto_region 2 with fail
  rw [← HW1.out]
  go_wp2_with fail
  go_loopw [8] (fun i wr => ∃ A R, l = A ++ R ∧ i = .int .i64 (A.length : Int) ∧ BldAt w.heap.size w.heap.size (putA A) wr ∧ Chg (fun _ => False) w wr) (fun i _ => l.length - (intOf i).toNat)
  case atStart => exact ⟨[], l, rfl, rfl, HB1.out, HC1.out⟩
  case round =>
    obtain ⟨A, R, hl, rfl, hB, hcr⟩ := hrel
    have hAl : A.length ≤ l.length := by rw [hl]; simp
    have HB := Lib.hid hB
    have HCR := Lib.hid hcr
    have hsz := hcr.size
    obtain ⟨wq, rfl⟩ : ∃ wq : World, wq = wr := ⟨_, rfl⟩
    clear hB hcr
    cases R with
    | nil =>
      have hge : ¬ ((A.length : Int) < (l.length : Int)) := by rw [hl]; simp
      have hE : l = A := by rw [hl]; simp
      have HE := Lib.hid hE
      clear hl hE
      go_wp2_with fail
      with_reducible refine (bl_string w.heap.size w.heap.size (putA A) wq HB.out hsz).mono ?_
      rintro e w2 ⟨rfl, hc2⟩
      have HC2 := Lib.hid (HCR.out.trans hc2 fun k hk h => by omega)
      clear hc2
      go_wp2_with fail
      go_ret
      exact ⟨by rw [HE.out]; rfl, HC2.out⟩
    | cons x R =>
      have hlt : (A.length : Int) < (l.length : Int) := by rw [hl]; simp; omega
      obtain ⟨b, off, rfl, hb, hx⟩ := HREAD.out (by rw [hl]; simp)
      have y0 := ky_chg HCR.out (hx A.length x (by rw [hl]; simp))
      obtain ⟨x0, x1⟩ := HFIT.out x (by rw [hl]; simp)
      have hfA := putA_len (l := A) fun y hy => HFIT.out y (by rw [hl]; simp [hy])
      have hl2 : l = (A ++ [x]) ++ R := by rw [hl]; simp
      have HL2 := Lib.hid hl2
      have hge : (0 : Int) ≤ (A.length : Int) := by omega
      have hp := va_put x x0 x1 wq
      have hpl := putV_len x0 x1
      obtain ⟨T, hT⟩ : ∃ T : ByteArray, (⟨(putV x).toArray⟩ : ByteArray) = T := ⟨_, rfl⟩
      have hTs : T.size ≤ 10 := by rw [← hT]; show (putV x).toArray.size ≤ 10; rw [List.size_toArray]; exact hpl
      have hTl : T.data.toList = putV x := by rw [← hT]
      rw [hT] at hp
      have HP := Lib.hid hp
      have HTL := Lib.hid hTl
      clear hl hl2 hb hx hp hT hTl hpl
      go_wp2_with fail
      refine HP.out.mono ?_
      rintro e w3 ⟨rfl, hc3⟩
      have HC3 := Lib.hid (HCR.out.then hc3)
      have HB3 := Lib.hid (HB.out.chg hc3)
      have hsz3 := Nat.le_trans hsz hc3.size
      clear hc3
      go_wp2_with fail
      with_reducible refine (bl_write w.heap.size w.heap.size (putA A) T w3 HB3.out (by omega) hsz3).mono ?_
      rintro e w4 ⟨rfl, hb4, hc4⟩
      rw [HTL.out, ← putA_add] at hb4
      have HB4 := Lib.hid hb4
      have HC4 := Lib.hid (HC3.out.trans hc4 fun k hk h => by omega)
      clear hb4 hc4
      go_wp2_with fail
      go_roundw
      case rel => exact ⟨A ++ [x], R, HL2.out, by simp, HB4.out, HC4.out⟩
      case measure => simp [intOf]; omega
end Go.Proofs.YtahahginmgidjaaGreatDoor
namespace Go.Proofs.YtahahginmgidjaaGreatDoor
open Go.RowKit
set_option linter.unusedVariables false
set_option linter.unusedSimpArgs false

end Go.Proofs.YtahahginmgidjaaGreatDoor
