/-
  The document's reading of a whole pattern.
-/
import Derived.Test.YtjloddlkleileaaGreatDoorPatH
namespace Go.Proofs.YtjloddlkleileaaGreatDoor
open Go.RowKit
set_option linter.unusedVariables false
set_option linter.unusedSimpArgs false

def rstepC : Codec PStepV := ⟨fun x => [bV x.kind, bV x.name, .bool x.no, .int .i64 x.min, .int .i64 x.max], 5, 130, 72, .agg #[.int .u8 0, .int .u8 0, .bool false, .int .i64 0, .int .i64 0], 24⟩
def rcondC : Codec PCondV := ⟨fun x => [bV x.left, .int .i64 x.op, bV x.right, .int .i64 x.add], 4, 135, 73, .agg #[.int .u8 0, .int .i64 0, .int .u8 0, .int .i64 0], 32⟩
theorem rstepOk : rstepC.Ok := ⟨fun _ => rfl, by decide, fun x v hv => by simp [rstepC] at hv; rcases hv with rfl | rfl | rfl | rfl | rfl <;> rfl, Tryz.underlying72, by kernel_rfl, rfl, by decide⟩
theorem rcondOk : rcondC.Ok := ⟨fun _ => rfl, by decide, fun x v hv => by simp [rcondC] at hv; rcases hv with rfl | rfl | rfl | rfl <;> rfl, Tryz.underlying73, by kernel_rfl, rfl, by decide⟩
/-- The pattern under way: the reader r, the result g, the pattern q and its two lists. -/
structure DP (w0 w : World) (g r q : Nat) (s : ByteArray) (st : PSt) (sv cv : Value) (L : List PStepV) (C : List PCondV) (n : Int) : Prop where
  rd : QRd w r s st
  res : Blk w g 75 #[.slice none 0 0, .slice none 0 0, .int .i64 0]
  blk : Blk w q 75 #[sv, cv, .int .i64 n]
  steps : Lst rstepC w sv L
  conds : Lst rcondC w cv C
  sown : ∀ b, sv.ownBlock = some b → w0.heap.size ≤ b
  cown : ∀ b, cv.ownBlock = some b → w0.heap.size ≤ b
  hr : w0.heap.size ≤ r
  hg : w0.heap.size ≤ g
  hq : w0.heap.size ≤ q
  hgq : g ≠ q
  chg : Chg (fun _ => False) w0 w
theorem lst_sl {α : Type} {C : Codec α} {w : World} {v : Value} {l : List α} (hC : C.Ok) (h : Lst C w v l) : ∃ a n cap, v = .slice a n cap := by
  obtain ⟨a, cap, e, _⟩ := h.form hC
  exact ⟨a, _, cap, e⟩
section
variable {w0 w w' : World} {g r q : Nat} {s : ByteArray} {st st' : PSt} {sv cv : Value} {L : List PStepV} {C : List PCondV} {n : Int}
theorem DP.ne (h : DP w0 w g r q s st sv cv L C n) : r ≠ g ∧ r ≠ q := by
  obtain ⟨k, b, p, hB, _⟩ := h.rd
  exact ⟨hB.ne_ h.res (by decide), hB.ne_ h.blk (by decide)⟩
theorem DP.sne (h : DP w0 w g r q s st sv cv L C n) : ∀ b, sv.ownBlock = some b → b ≠ r ∧ b ≠ g ∧ b ≠ q := fun b hb => by
  obtain ⟨cs, hB⟩ := h.steps.typed hb
  obtain ⟨k, bd, p, hR, _⟩ := h.rd
  exact ⟨hB.ne_ hR (by decide), hB.ne_ h.res (by decide), hB.ne_ h.blk (by decide)⟩
theorem DP.cne (h : DP w0 w g r q s st sv cv L C n) : ∀ b, cv.ownBlock = some b → b ≠ r ∧ b ≠ g ∧ b ≠ q ∧ sv.ownBlock ≠ some b := fun b hb => by
  obtain ⟨cs, hB⟩ := h.conds.typed hb
  obtain ⟨k, bd, p, hR, _⟩ := h.rd
  refine ⟨hB.ne_ hR (by decide), hB.ne_ h.res (by decide), hB.ne_ h.blk (by decide), fun e => ?_⟩
  obtain ⟨cs', hB'⟩ := h.steps.typed e
  exact hB.ne_ hB' (by decide) rfl
/-- Behind a call of the reader. -/
theorem DP.call (h : DP w0 w g r q s st sv cv L C n) (hR : QRd w' r s st') (hc : Chg (fun k => k = r) w w') : DP w0 w' g r q s st' sv cv L C n :=
  ⟨hR, h.res.chg hc (fun e => h.ne.1 e.symm), h.blk.chg hc (fun e => h.ne.2 e.symm), h.steps.chg hc fun b hb e => (h.sne b hb).1 e, h.conds.chg hc fun b hb e => (h.cne b hb).1 e, h.sown, h.cown, h.hr, h.hg, h.hq, h.hgq, h.chg.trans hc fun b hb e => by have := h.hr; omega⟩
/-- Where only new blocks have come. -/
theorem DP.same (h : DP w0 w g r q s st sv cv L C n) (hc : Chg (fun _ => False) w w') : DP w0 w' g r q s st sv cv L C n :=
  ⟨h.rd.chg hc (by simp), h.res.chg hc (by simp), h.blk.chg hc (by simp), h.steps.same hc, h.conds.same hc, h.sown, h.cown, h.hr, h.hg, h.hq, h.hgq, h.chg.then hc⟩
theorem DP.step {w4 : World} {v' : Value} {x : PStepV} (h : DP w0 w g r q s st sv cv L C n) (hO : Lst rstepC w4 v' (L ++ [x])) (hc : Chg (fun k => sv.ownBlock = some k) w w4) (hk : ∀ k, v'.ownBlock = some k → sv.ownBlock = some k ∨ w.heap.size ≤ k) :
    DP w0 (w4.setCell ⟨q, 0, none⟩ v') g r q s st v' cv (L ++ [x]) C n := by
  have hset : Chg (fun k => k = q) w4 (w4.setCell ⟨q, 0, none⟩ v') := Chg.seto (Chg.refl _ _)
  have hg4 : w0.heap.size ≤ w.heap.size := h.chg.size
  have hb4 := h.blk.chg hc fun e => (h.sne q e).2.2 rfl
  refine ⟨(h.rd.chg hc fun e => (h.sne r e).1 rfl).chg hset h.ne.2, (h.res.chg hc fun e => (h.sne g e).2.1 rfl).chg hset h.hgq, ?_, ?_, ?_, ?_, h.cown, h.hr, h.hg, h.hq, h.hgq, ?_⟩
  · have := hb4.set_ 0 v'
    simpa using this
  · refine hO.chg hset fun b hb e => ?_
    obtain ⟨cs, hB⟩ := hO.typed hb
    exact hB.ne_ hb4 (by decide) e
  · exact (h.conds.chg hc fun b hb e => (h.cne b hb).2.2.2 e).chg hset fun b hb e => (h.cne b hb).2.2.1 e
  · intro b hb
    rcases hk b hb with e | e
    · exact h.sown b e
    · omega
  · exact (h.chg.trans hc fun b hb e => by have := h.sown b e; omega).trans hset fun b hb e => by have := h.hq; omega
theorem DP.cond {w4 : World} {v' : Value} {x : PCondV} (h : DP w0 w g r q s st sv cv L C n) (hO : Lst rcondC w4 v' (C ++ [x])) (hc : Chg (fun k => cv.ownBlock = some k) w w4) (hk : ∀ k, v'.ownBlock = some k → cv.ownBlock = some k ∨ w.heap.size ≤ k) :
    DP w0 (w4.setCell ⟨q, 1, none⟩ v') g r q s st sv v' L (C ++ [x]) n := by
  have hset : Chg (fun k => k = q) w4 (w4.setCell ⟨q, 1, none⟩ v') := Chg.seto (Chg.refl _ _)
  have hg4 : w0.heap.size ≤ w.heap.size := h.chg.size
  have hb4 := h.blk.chg hc fun e => (h.cne q e).2.2.1 rfl
  refine ⟨(h.rd.chg hc fun e => (h.cne r e).1 rfl).chg hset h.ne.2, (h.res.chg hc fun e => (h.cne g e).2.1 rfl).chg hset h.hgq, ?_, ?_, ?_, h.sown, ?_, h.hr, h.hg, h.hq, h.hgq, ?_⟩
  · have := hb4.set_ 1 v'
    simpa using this
  · exact (h.steps.chg hc fun b hb e => (h.cne b e).2.2.2 hb).chg hset fun b hb e => (h.sne b hb).2.2 e
  · refine hO.chg hset fun b hb e => ?_
    obtain ⟨cs, hB⟩ := hO.typed hb
    exact hB.ne_ hb4 (by decide) e
  · intro b hb
    rcases hk b hb with e | e
    · exact h.cown b e
    · omega
  · exact (h.chg.trans hc fun b hb e => by have := h.cown b e; omega).trans hset fun b hb e => by have := h.hq; omega
theorem DP.put {n' : Int} (h : DP w0 w g r q s st sv cv L C n) : DP w0 (w.setCell ⟨q, 2, none⟩ (.int .i64 n')) g r q s st sv cv L C n' := by
  have hset : Chg (fun k => k = q) w (w.setCell ⟨q, 2, none⟩ (.int .i64 n')) := Chg.seto (Chg.refl _ _)
  exact ⟨h.rd.chg hset h.ne.2, h.res.chg hset h.hgq, by simpa using h.blk.set_ 2 (.int .i64 n'), h.steps.chg hset fun b hb e => (h.sne b hb).2.2 e, h.conds.chg hset fun b hb e => (h.cne b hb).2.2.1 e, h.sown, h.cown, h.hr, h.hg, h.hq, h.hgq, h.chg.trans hset fun b hb e => by have := h.hq; omega⟩
theorem DP.snorm {a : Option Addr} {m c : Nat} (h : DP w0 w g r q s st (.slice a m c) cv L C n) : m = L.length := by
  obtain ⟨a', c', e, _⟩ := h.steps.form rstepOk
  injection e
theorem DP.cnorm {a : Option Addr} {m c : Nat} (h : DP w0 w g r q s st sv (.slice a m c) L C n) : m = C.length := by
  obtain ⟨a', c', e, _⟩ := h.conds.form rcondOk
  injection e
end
/-- How many the list in a field has, as a measure: the more, the less. -/
def lenAtD (w : World) (g i m : Nat) : Nat := match w.cell? ⟨g, i, none⟩ with
  | some (.slice _ n _) => m - n
  | _ => 0
theorem lenAtD_of {w : World} {g i m n : Nat} {a : Option Addr} {c : Nat} (h : w.cell? ⟨g, i, none⟩ = some (.slice a n c)) : lenAtD w g i m = m - n := by unfold lenAtD; rw [h]
theorem stepS_eight {s : List UInt8} (st : PSt) : badS (stepS s 8 st).2 = true := by
  cases st with
  | inr c => rw [stepS_bad]; rfl
  | inl k =>
    have h := step_sim (s := s) k 8 (Nat.le_refl _)
    rw [stepP, if_pos rfl] at h
    have h : (stepS s 8 (.inl k)).2 = .inr (stepMany s k) := h
    rw [h]
    rfl
theorem condS_many {s : List UInt8} (st : PSt) : badS (condS s 16 st).2 = true := by
  cases st with
  | inr c => rw [condS_bad]; rfl
  | inl k =>
    have h := cond_sim (s := s) k 16 (Nat.le_refl _)
    rw [condP, if_pos rfl] at h
    have h : (condS s 16 (.inl k)).2 = .inr (condMany s k) := h
    rw [h]
    rfl
/-- The steps from a loop's head on; the conditions. -/
def moreS (s : List UInt8) (m : Bool) (L : List PStepV) (st : PSt) : List PStepV × PSt := if m && !badS st then stepsS s (9 - L.length) L st else (L, st)
def moreC (s : List UInt8) (m : Bool) (C : List PCondV) (st : PSt) : List PCondV × PSt := if m && !badS st then condsS s (17 - C.length) C st else (C, st)
theorem moreS_step {s : List UInt8} {L : List PStepV} {st : PSt} (hb : badS st = false) (hl : L.length ≤ 8) : (L.length = 8 → isS s 44 44 (stepS s L.length st).2 = false) ∧
    moreS s true L st = moreS s (isS s 44 44 (stepS s L.length st).2) (L ++ [(stepS s L.length st).1]) (if isS s 44 44 (stepS s L.length st).2 then (takeS s 44 44 (stepS s L.length st).2).2 else (stepS s L.length st).2) := by
  constructor
  · intro h8
    have := stepS_eight (s := s) st
    rw [h8]
    cases h : (stepS s 8 st).2 with
    | inl k => rw [h] at this; cases this
    | inr c => rfl
  · unfold moreS
    rw [hb, show 9 - L.length = (8 - L.length) + 1 by omega, stepsS]
    cases h : isS s 44 44 (stepS s L.length st).2 with
    | false => simp
    | true =>
      have hnb : badS (takeS s 44 44 (stepS s L.length st).2).2 = false := by
        cases h2 : (stepS s L.length st).2 with
        | inr c => rw [h2] at h; cases h
        | inl k =>
          rw [h2] at h
          have h : isB s k 44 44 = true := h
          rw [take_lit h]
          rfl
      simp only [Bool.true_and, Bool.not_false, if_true, hnb, List.length_append, List.length_singleton]
      rw [show 9 - (L.length + 1) = 8 - L.length by omega]
theorem moreC_step {s : List UInt8} {C : List PCondV} {st : PSt} (hb : badS st = false) (hl : C.length ≤ 16) : (C.length = 16 → isS s 65 65 (takeS s 32 32 (condS s C.length st).2).2 = false) ∧
    moreC s true C st = moreC s (isS s 65 65 (takeS s 32 32 (condS s C.length st).2).2) (C ++ [(condS s C.length st).1]) (if isS s 65 65 (takeS s 32 32 (condS s C.length st).2).2 then wordS s [65, 78, 68, 32] (takeS s 32 32 (condS s C.length st).2).2 else (takeS s 32 32 (condS s C.length st).2).2) := by
  constructor
  · intro h8
    have := condS_many (s := s) st
    rw [h8]
    cases h : (condS s 16 st).2 with
    | inl k => rw [h] at this; cases this
    | inr c => rfl
  · unfold moreC
    rw [hb, show 17 - C.length = (16 - C.length) + 1 by omega, condsS]
    cases h : isS s 65 65 (takeS s 32 32 (condS s C.length st).2).2 with
    | false => simp
    | true =>
      simp only [Bool.true_and, Bool.not_false, if_true, List.length_append, List.length_singleton]
      rw [show 17 - (C.length + 1) = 16 - C.length by omega]
      cases badS (wordS s [65, 78, 68, 32] (takeS s 32 32 (condS s C.length st).2).2) <;> simp
theorem patternS_eq (s : List UInt8) : ∀ SS W2 CC N, moreS s true [] (wordS s [83, 69, 81, 40] (.inl 0)) = SS → wordS s [41, 32, 87] SS.2 = W2 → whereS s W2 = CC → numberS s 48 (wordS s [73, 84, 72, 73, 78, 32] CC.2) = N → patternS s = (⟨SS.1, CC.1, N.1⟩, N.2) := by
  rintro _ _ _ _ rfl rfl rfl rfl
  unfold patternS moreS
  cases h : badS (wordS s [83, 69, 81, 40] (.inl 0)) <;> simp [h]
theorem whereS_yes {s : List UInt8} {st : PSt} (h : isS s 72 72 st = true) : ∀ CC, moreC s true [] (wordS s [72, 69, 82, 69, 32] st) = CC → whereS s st = (CC.1, (takeS s 87 87 CC.2).2) := by
  rintro _ rfl
  unfold whereS moreC
  rw [if_pos h]
  cases h : badS (wordS s [72, 69, 82, 69, 32] st) <;> simp [h]
/-- What the document's Parse leaves. -/
def DocPost (w : World) (v : PatV ⊕ Int) (e : Ending) (w' : World) : Prop := match v with
  | .inl p => ∃ sv cv, e = .returned (.tuple #[.agg #[sv, cv, .int .i64 p.within], .int .i64 0, .int .i64 0]) ∧ Lst rstepC w' sv p.steps ∧ Lst rcondC w' cv p.conds ∧ Chg (fun _ => False) w w'
  | .inr c => c ≠ 0 ∧ ∃ i : Int, e = .returned (.tuple #[.agg #[.slice none 0 0, .slice none 0 0, .int .i64 0], .int .i64 i, .int .i64 c]) ∧ Chg (fun _ => False) w w'
/- a call of the reader: contract, number behind -/
/- the loop's test: condition's slot · region's cut -/
/- what was read is appended: world · field · okay · list · slice · element · cells · type · steps|conds -/
/- behind the conditions: the lists' slices -/
/- the end at a fault: world · its number -/
set_option maxRecDepth 100000 in
set_option maxHeartbeats 8000000 in
theorem rp_parse (s : ByteArray) (w : World) : Calls Tryz.prog 23 #[.string s] w (DocPost w (parseP s.data.toList)) := by
  by_cases hs : 4096 < s.size
  · have hp : parseP s.data.toList = .inr 5 := by unfold parseP; rw [if_pos (by rw [pa_len]; exact hs)]
    rw [hp]
    clear hp
    have q : decide ((s.size : Int) > 4096) = true := by simp; omega
    clear hs
    go_enter Tryz.func23, Tryz.ntmps23
    go_wp2_with fail
    exact bodyPost_ret (v := .tuple #[.agg #[.slice none 0 0, .slice none 0 0, .int .i64 0], .int .i64 0, .int .i64 5]) (by simp [results, Tryz.results23, go_sem]) rfl ⟨by decide, 0, rfl, by ((repeat (first | exact Chg.refl _ _ | assumption | refine Chg.drewN ?_ _ | refine Chg.drew ?_ | refine Chg.alloc ?_ _ | refine Chg.setCell ?_ (by first | (simp; done) | (simp; omega) | (intro h; simp at h; omega)) _)))⟩
  · have hs : s.size ≤ 4096 := by omega
    have q : decide ((s.size : Int) > 4096) = false := by simp; omega
    have hsim := parse_sim (s := s.data.toList) (by rw [pa_len]; exact hs)
    obtain ⟨PS, hPS⟩ : ∃ x, patternS s.data.toList = x := ⟨_, rfl⟩
    rw [hPS] at hsim
    obtain ⟨W1, hW1⟩ : ∃ x, wordS s.data.toList [83, 69, 81, 40] (.inl 0) = x := ⟨_, rfl⟩
    obtain ⟨SS, hSS⟩ : ∃ x, moreS s.data.toList true [] W1 = x := ⟨_, rfl⟩
    obtain ⟨W2, hW2⟩ : ∃ x, wordS s.data.toList [41, 32, 87] SS.2 = x := ⟨_, rfl⟩
    obtain ⟨CC, hCC⟩ : ∃ x, whereS s.data.toList W2 = x := ⟨_, rfl⟩
    obtain ⟨W3, hW3⟩ : ∃ x, wordS s.data.toList [73, 84, 72, 73, 78, 32] CC.2 = x := ⟨_, rfl⟩
    obtain ⟨N, hN⟩ : ∃ x, numberS s.data.toList 48 W3 = x := ⟨_, rfl⟩
    have hPE := patternS_eq s.data.toList SS W2 CC N (by rw [hW1]; exact hSS) hW2 hCC (by rw [hW3]; exact hN)
    rw [hPS] at hPE
    obtain ⟨w1, hw1⟩ : ∃ w1, w1 = ((w.alloc (.cells #[.slice none 0 0, .slice none 0 0, .int .i64 0] 75)).alloc (.cells #[.string s, .int .i64 0, .int .i64 0, .int .i64 0] 127)).alloc (.cells #[.slice none 0 0, .slice none 0 0, .int .i64 0] 75) := ⟨_, rfl⟩
    obtain ⟨g, hg⟩ : ∃ g, w.heap.size = g := ⟨_, rfl⟩
    obtain ⟨r, hr⟩ : ∃ r, g + 1 = r := ⟨_, rfl⟩
    obtain ⟨qb, hq⟩ : ∃ q, r + 1 = q := ⟨_, rfl⟩
    have hd : DP w w1 g r qb s (.inl 0) (.slice none 0 0) (.slice none 0 0) [] [] 0 := by
      refine ⟨⟨0, 0, 0, ?_, rfl, rfl, Nat.zero_le _⟩, ?_, ?_, Lst.nil _ _, Lst.nil _ _, by simp [Value.ownBlock], by simp [Value.ownBlock], by omega, by omega, by omega, by omega, by rw [hw1]; ((repeat (first | exact Chg.refl _ _ | assumption | refine Chg.drewN ?_ _ | refine Chg.drew ?_ | refine Chg.alloc ?_ _ | refine Chg.setCell ?_ (by first | (simp; done) | (simp; omega) | (intro h; simp at h; omega)) _)))⟩
      · rw [hw1, ← hr, ← hg]; exact (Blk.new1 _ _ _ _).alloc _
      · rw [hw1, ← hg]; exact ((Blk.new _ _ _).alloc _).alloc _
      · rw [hw1, ← hq, ← hr, ← hg]; exact Blk.new2 _ _ _ _ _
    have hfe : ∀ c, endS s.data.toList N.2 = .inr c → parseP s.data.toList = .inr c := fun c h => by
      rw [hPE] at hsim
      cases hp : parseP s.data.toList with
      | inr d => rw [hp] at hsim; have hsim : endS s.data.toList N.2 = .inr d := hsim; rw [h] at hsim; injection hsim with e; rw [e]
      | inl p => rw [hp] at hsim; obtain ⟨k, _, h2⟩ := hsim; have h2 : endS s.data.toList N.2 = .inl k := h2; rw [h] at h2; cases h2
    have hfo : ∀ k, endS s.data.toList N.2 = .inl k → parseP s.data.toList = .inl ⟨SS.1, CC.1, N.1⟩ := fun k h => by
      rw [hPE] at hsim
      cases hp : parseP s.data.toList with
      | inr d => rw [hp] at hsim; have hsim : endS s.data.toList N.2 = .inr d := hsim; rw [h] at hsim; cases hsim
      | inl p => rw [hp] at hsim; obtain ⟨k, h1, h2⟩ := hsim; rw [← h1]
    clear hsim hPE hPS
    have HFE := Lib.hid hfe
    have HFO := Lib.hid hfo
    have HW1 := Lib.hid hW1
    have HSS := Lib.hid hSS
    have HW2 := Lib.hid hW2
    have HCC := Lib.hid hCC
    have HW3 := Lib.hid hW3
    have HN := Lib.hid hN
    have HWA := Lib.hid hw1
    have HG := Lib.hid hg
    have HR := Lib.hid hr
    have HQ := Lib.hid hq
    have HD := Lib.hid hd
    clear hfe hfo hW1 hSS hW2 hCC hW3 hN hw1 hg hr hq hd
    go_enter Tryz.func23, Tryz.ntmps23
    go_upto_region 5 with fail
    rw [← HWA.out, HG.out, HR.out, HQ.out]
    have hxx := rp_word r s ⟨#[83, 69, 81, 40]⟩ [83, 69, 81, 40] rfl (.inl 0) hs (by decide) _ HD.out.rd
    rw [HW1.out] at hxx
    have HXX := Lib.hid hxx
    clear hxx
    go_wp2_with fail
    refine (HXX.out).mono ?_
    rintro e w2 ⟨rfl, hR, h6⟩
    have hd := HD.out.call hR h6
    clear HD h6 hR
    have HD := Lib.hid hd
    clear hd
    clear HXX
    go_wp2_with fail
    go_loopw [7] (fun m wr => ∃ (b : Bool) (a : Option Addr) (c : Nat) (L : List PStepV) (st : PSt), m = .bool b ∧ DP w wr g r qb s st (.slice a L.length c) (.slice none 0 0) L [] 0 ∧ L.length ≤ 9 ∧ (b = true → badS st = false → L.length ≤ 8) ∧ SS = moreS s.data.toList b L st) (fun _ wr => lenAtD wr qb 0 10)
    case atStart => exact ⟨true, none, 0, [], W1, rfl, HD.out, by simp, by simp, HSS.out.symm⟩
    case round =>
      clear HD
      obtain ⟨b, a, c, L, st, rfl, hd, hl9, hl8, hss⟩ := hrel
      obtain ⟨k, bd, p, hB, hti⟩ := hd.rd
      have y2 := hB.cell 2
      simp at y2
      have hbad : (bd == 0) = !badS st := by
        cases st with
        | inl j => obtain ⟨_, rfl, _⟩ := hti; rfl
        | inr d => obtain ⟨rfl, hd0⟩ := hti; simpa [badS] using hd0
      have x0 := hd.blk.cell 0
      simp at x0
      have hm := lenAtD_of (m := 10) x0
      have HD := Lib.hid hd
      have HSS2 := Lib.hid hss
      have HL8 := Lib.hid hl8
      have HBAD := Lib.hid hbad
      have HM := Lib.hid hm
      clear hd hss hl8 hbad hm
      clear hB hti x0
      go_upto_region 7 with fail
      go_cut [28] (fun t wx => t = .bool (b && !badS st) ∧ wx = wr)
      case first =>
        have hb := HBAD.out
        cases b with
        | false =>
          go_wp2_with fail
          go_meet
          exact ⟨rfl, rfl⟩
        | true =>
          go_wp2_with fail
          go_meet
          exact ⟨by simp, rfl⟩
      case rest =>
      obtain ⟨ht, rfl⟩ := hcut
      cases hmb : (b && !badS st) with
      | false =>
        have hss : SS = (L, st) := by rw [HSS2.out]; unfold moreS; rw [hmb]; rfl
        rw [hmb] at ht
        subst ht
        clear hmb HL8 HBAD HM HSS2 y2
        have hw2 := HW2.out
        rw [hss] at hw2
        dsimp only at hw2
        clear HW2
        have HSS2 := Lib.hid hss
        have HW2 := Lib.hid hw2
        clear hss hw2
        have hxx := rp_word r s ⟨#[41, 32, 87]⟩ [41, 32, 87] rfl st hs (by decide) _ HD.out.rd
        rw [HW2.out] at hxx
        have HXX := Lib.hid hxx
        clear hxx
        go_wp2_with fail
        refine (HXX.out).mono ?_
        rintro e w3 ⟨rfl, hR, h6⟩
        have hd := HD.out.call hR h6
        clear HD h6 hR
        have HD := Lib.hid hd
        clear hd
        clear HXX
        obtain ⟨bw, hwh⟩ : ∃ x, isS s.data.toList 72 72 W2 = x := ⟨_, rfl⟩
        have hxx := rp_next r s W2 72 72 _ _ rfl rfl _ HD.out.rd
        rw [hwh] at hxx
        have HXX := Lib.hid hxx
        clear hxx
        go_wp2_with fail
        refine (HXX.out).mono ?_
        rintro e w4 ⟨rfl, hR, h6⟩
        have hd := HD.out.call hR h6
        clear HD h6 hR
        have HD := Lib.hid hd
        clear hd
        clear HXX
        have HWH := Lib.hid hwh
        clear hwh
        go_upto_if 49 with fail
        go_cut [] (fun wx => ∃ a2 n2 c2, DP w wx g r qb s CC.2 (.slice a L.length c) (.slice a2 n2 c2) L CC.1 0)
        case first =>
          cases bw with
          | false =>
            have hcc : CC = ([], W2) := by rw [← HCC.out]; unfold whereS; rw [if_neg (by rw [HWH.out]; decide)]
            have hd := HD.out
            have HCC2 := Lib.hid hcc
            have HD2 := Lib.hid hd
            clear hcc hd
            go_wp2_with fail
            go_meet
            rw [HCC2.out]
            exact ⟨_, _, _, HD2.out⟩
          | true =>
            obtain ⟨W4, hW4⟩ : ∃ x, wordS s.data.toList [72, 69, 82, 69, 32] W2 = x := ⟨_, rfl⟩
            obtain ⟨CX, hCX⟩ : ∃ x, moreC s.data.toList true [] W4 = x := ⟨_, rfl⟩
            have hcc := HCC.out.symm.trans (whereS_yes HWH.out CX (by rw [hW4]; exact hCX))
            clear HSS HCC HFE HFO HW3 HN
            have HCC2 := Lib.hid hcc
            have HW4 := Lib.hid hW4
            have HCX := Lib.hid hCX
            clear hcc hW4 hCX
            have hxx := rp_word r s ⟨#[72, 69, 82, 69, 32]⟩ [72, 69, 82, 69, 32] rfl W2 hs (by decide) _ HD.out.rd
            rw [HW4.out] at hxx
            have HXX := Lib.hid hxx
            clear hxx
            go_wp2_with fail
            refine (HXX.out).mono ?_
            rintro e w5 ⟨rfl, hR, h6⟩
            have hd := HD.out.call hR h6
            clear HD h6 hR
            have HD := Lib.hid hd
            clear hd
            clear HXX
            go_wp2_with fail
            go_loopw [7] (fun m wr => ∃ (b : Bool) (a2 : Option Addr) (c2 : Nat) (C : List PCondV) (st : PSt), m = .bool b ∧ DP w wr g r qb s st (.slice a L.length c) (.slice a2 C.length c2) L C 0 ∧ C.length ≤ 17 ∧ (b = true → badS st = false → C.length ≤ 16) ∧ CX = moreC s.data.toList b C st) (fun _ wr => lenAtD wr qb 1 18)
            case atStart => exact ⟨true, none, 0, [], W4, rfl, HD.out, by simp, by simp, HCX.out.symm⟩
            case round =>
              clear HD
              obtain ⟨b, a2, c2, C, st, rfl, hd, hl9, hl8, hss⟩ := hrel
              obtain ⟨k, bd, p, hB, hti⟩ := hd.rd
              have y2 := hB.cell 2
              simp at y2
              have hbad : (bd == 0) = !badS st := by
                cases st with
                | inl j => obtain ⟨_, rfl, _⟩ := hti; rfl
                | inr d => obtain ⟨rfl, hd0⟩ := hti; simpa [badS] using hd0
              have x0 := hd.blk.cell 1
              simp at x0
              have hm := lenAtD_of (m := 18) x0
              have HD := Lib.hid hd
              have HSS3 := Lib.hid hss
              have HL8 := Lib.hid hl8
              have HBAD := Lib.hid hbad
              have HM := Lib.hid hm
              clear hd hss hl8 hbad hm
              clear hB hti x0
              go_upto_region 18 with fail
              go_cut [59] (fun t wx => t = .bool (b && !badS st) ∧ wx = wr)
              case first =>
                have hb := HBAD.out
                cases b with
                | false =>
                  go_wp2_with fail
                  go_meet
                  exact ⟨rfl, rfl⟩
                | true =>
                  go_wp2_with fail
                  go_meet
                  exact ⟨by simp, rfl⟩
              case rest =>
              obtain ⟨ht, rfl⟩ := hcut
              cases hmb : (b && !badS st) with
              | false =>
                have hss : CX = (C, st) := by rw [HSS3.out]; unfold moreC; rw [hmb]; rfl
                rw [hmb] at ht
                subst ht
                clear hmb HL8 HBAD HM HSS3 y2
                have hcc := HCC2.out
                rw [hss] at hcc
                have HCC3 := Lib.hid hcc
                clear hcc
                go_wp2_with fail
                refine (rp_take r s st 87 87 _ _ rfl rfl hs _ HD.out.rd).mono ?_
                rintro e w6 ⟨rfl, hR, h6⟩
                have hd := HD.out.call hR h6
                clear HD h6 hR
                have HD := Lib.hid hd
                clear hd
                go_wp2_with fail
                go_meet
                rw [HCC3.out]
                exact ⟨_, _, _, HD.out⟩
              | true =>
                obtain ⟨rfl, hnb⟩ : b = true ∧ badS st = false := by simpa using hmb
                rw [hmb] at ht
                subst ht
                have hl8 := HL8.out rfl hnb
                obtain ⟨m1, m2⟩ := moreC_step (s := s.data.toList) hnb hl8
                have hss := HSS3.out.trans m2
                obtain ⟨X, hX⟩ : ∃ x, condS s.data.toList C.length st = x := ⟨_, rfl⟩
                rw [hX] at m1 hss
                obtain ⟨S5, hS5⟩ : ∃ x, (takeS s.data.toList 32 32 X.2).2 = x := ⟨_, rfl⟩
                rw [hS5] at m1 hss
                have hst0 := fun W hW => rp_cond r s st C.length (by omega) hs W hW
                rw [hX] at hst0
                have hst : ∀ W, QRd W r s st → Calls Tryz.prog 44 #[.pointer (some ⟨r, 0, none⟩), .int .i64 (C.length : Int)] W (QPost W r s (.agg #[bV X.1.left, .int .i64 X.1.op, bV X.1.right, .int .i64 X.1.add]) X.2) := hst0
                have x0 := HD.out.blk.cell 1
                simp at x0
                clear hmb HL8 HBAD HSS3 y2 m2 hst0
                have HSS3 := Lib.hid hss
                have M1 := Lib.hid m1
                have HNB := Lib.hid hnb
                have HX := Lib.hid hX
                have HST := Lib.hid hst
                have HS5 := Lib.hid hS5
                clear hss m1 hnb hX hst hS5
                go_wp2_with fail
                refine (HST.out _ HD.out.rd).mono ?_
                rintro e w6 ⟨rfl, hR, h6⟩
                have hd := HD.out.call hR h6
                clear HD h6 hR
                have HD := Lib.hid hd
                clear hd
                clear x0
                go_upto_region 20 with fail
                have hdl := HD.out.blk.lt
                obtain ⟨w4, hw4⟩ : ∃ w4, w4 = w6.alloc (.cells #[bV X.1.left, .int .i64 X.1.op, bV X.1.right, .int .i64 X.1.add] 135) := ⟨_, rfl⟩
                have hd4 := HD.out.same (w' := w4) (by rw [hw4]; exact (Chg.refl _ _).alloc _)
                have hx4 : Blk w4 w6.heap.size 135 #[bV X.1.left, .int .i64 X.1.op, bV X.1.right, .int .i64 X.1.add] := by rw [hw4]; exact Blk.new _ _ _
                clear HD
                have HD := Lib.hid hd4
                have HW4 := Lib.hid hw4
                have HX4 := Lib.hid hx4
                clear hd4 hw4 hx4
                rw [← HW4.out]
                have x0 := HX4.out.cell 0
                have x1 := HX4.out.cell 1
                have x2 := HX4.out.cell 2
                have x3 := HX4.out.cell 3
                have z0 := HD.out.blk.cell 1
                simp at x0 x1 x2 x3 z0
                go_wp2_with (at_builtin; refine wpList_lst_app rcondOk _ (by rfl) _ _ (by rfl) C (.slice a2 C.length c2) X.1 (by rfl) (HD.out.conds.same ((Chg.refl _ _).alloc _)) _ (by rfl) (by omega) (by show Blk _ _ 135 #[bV X.1.left, .int .i64 X.1.op, bV X.1.right, .int .i64 X.1.add]; exact Blk.new _ _ _) ?_)
                intro v' w5 hO hc5 hk5
                obtain ⟨a5, n5, p5, rfl⟩ := lst_sl rcondOk hO
                have hda := HD.out.same ((Chg.refl _ _).alloc (.cells #[bV X.1.left, .int .i64 X.1.op, bV X.1.right, .int .i64 X.1.add] 135))
                have hb5 := hda.blk.chg hc5 fun e => (hda.cne qb e).2.2.1 rfl
                have hd6 := hda.cond hO hc5 (fun k hk => by have := hk5 k hk; simpa using this)
                have e := hd6.cnorm
                rw [List.length_append, List.length_singleton] at e
                subst e
                have y5 := hb5.cell 1
                have f5 := hb5.frozen 1
                simp at y5
                clear x0 x1 x2 x3 z0 hO hc5 hk5 hda hb5 HD HX4
                have HD := Lib.hid hd6
                clear hd6
                go_upto_region 21 with fail
                obtain ⟨w7, hw7⟩ : ∃ w7 : World, w7 = w5.setCell ⟨qb, 1, none⟩ (.slice a5 (C.length + 1) p5) := ⟨_, rfl⟩
                rw [← hw7] at HD ⊢
                clear hw7 y5 f5
                have hxx := rp_take r s X.2 32 32 _ _ rfl rfl hs _ HD.out.rd
                rw [HS5.out] at hxx
                have HXX := Lib.hid hxx
                clear hxx
                go_wp2_with fail
                refine (HXX.out).mono ?_
                rintro e w8 ⟨rfl, hR, h6⟩
                have hd := HD.out.call hR h6
                clear HD h6 hR
                have HD := Lib.hid hd
                clear hd
                clear HXX
                cases hmn : isS s.data.toList 65 65 S5 with
                | true =>
                  have hss := HSS3.out
                  have h8 : C.length ≠ 16 := fun e => by rw [M1.out e] at hmn; cases hmn
                  rw [hmn, if_pos rfl] at hss
                  clear HSS3
                  have HSS3 := Lib.hid hss
                  clear hss
                  have hxx := rp_next r s _ 65 65 _ _ rfl rfl _ HD.out.rd
                  rw [hmn] at hxx
                  have HXX := Lib.hid hxx
                  clear hxx
                  go_wp2_with fail
                  refine (HXX.out).mono ?_
                  rintro e w9 ⟨rfl, hR, h6⟩
                  have hd := HD.out.call hR h6
                  clear HD h6 hR
                  have HD := Lib.hid hd
                  clear hd
                  clear HXX
                  go_wp2_with fail
                  refine (rp_word r s ⟨#[65, 78, 68, 32]⟩ [65, 78, 68, 32] rfl S5 hs (by decide) _ HD.out.rd).mono ?_
                  rintro e w10 ⟨rfl, hR, h6⟩
                  have hd := HD.out.call hR h6
                  clear HD h6 hR
                  have HD := Lib.hid hd
                  clear hd
                  have x0 := HD.out.blk.cell 1
                  simp only [List.getElem?_toArray, List.getElem?_cons_zero, List.getElem?_cons_succ] at x0
                  have hm2 := lenAtD_of (m := 18) x0
                  clear x0 hmn
                  have HM2 := Lib.hid hm2
                  clear hm2
                  go_wp2_with fail
                  have hd := HD.out
                  rw [show C.length + 1 = (C ++ [X.1]).length by simp] at hd
                  refine ⟨⟨true, a5, p5, C ++ [X.1], _, rfl, hd, by simp; omega, by simp; omega, HSS3.out⟩, ?_⟩
                  rw [HM2.out, HM.out]
                  omega
                | false =>
                  have hss := HSS3.out
                  rw [hmn, if_neg (by decide)] at hss
                  clear HSS3
                  have HSS3 := Lib.hid hss
                  clear hss
                  have hxx := rp_next r s _ 65 65 _ _ rfl rfl _ HD.out.rd
                  rw [hmn] at hxx
                  have HXX := Lib.hid hxx
                  clear hxx
                  go_wp2_with fail
                  refine (HXX.out).mono ?_
                  rintro e w9 ⟨rfl, hR, h6⟩
                  have hd := HD.out.call hR h6
                  clear HD h6 hR
                  have HD := Lib.hid hd
                  clear hd
                  clear HXX
                  have x0 := HD.out.blk.cell 1
                  simp only [List.getElem?_toArray, List.getElem?_cons_zero, List.getElem?_cons_succ] at x0
                  have hm2 := lenAtD_of (m := 18) x0
                  clear x0 hmn
                  have HM2 := Lib.hid hm2
                  clear hm2
                  go_wp2_with fail
                  have hd := HD.out
                  rw [show C.length + 1 = (C ++ [X.1]).length by simp] at hd
                  refine ⟨⟨false, a5, p5, C ++ [X.1], _, rfl, hd, by simp; omega, (fun e => by cases e), HSS3.out⟩, ?_⟩
                  rw [HM2.out, HM.out]
                  omega
        case rest =>
        clear HD
        obtain ⟨a2, n2, c2, hd⟩ := hcut
        have HD := Lib.hid hd
        clear hd
        have hxx := rp_word r s ⟨#[73, 84, 72, 73, 78, 32]⟩ [73, 84, 72, 73, 78, 32] rfl CC.2 hs (by decide) _ HD.out.rd
        rw [HW3.out] at hxx
        have HXX := Lib.hid hxx
        clear hxx
        go_wp2_with fail
        refine (HXX.out).mono ?_
        rintro e w21 ⟨rfl, hR, h6⟩
        have hd := HD.out.call hR h6
        clear HD h6 hR
        have HD := Lib.hid hd
        clear hd
        clear HXX
        have hxx := rp_number r s W3 48 48 rfl (by decide) hs _ HD.out.rd
        rw [HN.out] at hxx
        have HXX := Lib.hid hxx
        clear hxx
        go_wp2_with fail
        refine (HXX.out).mono ?_
        rintro e w22 ⟨rfl, hR, h6⟩
        have hd := HD.out.call hR h6
        clear HD h6 hR
        have HD := Lib.hid hd
        clear hd
        clear HXX
        have x2 := HD.out.blk.cell 2
        have xf2 := HD.out.blk.frozen 2
        simp at x2
        go_upto_region 28 with fail
        obtain ⟨w23, hw23⟩ : ∃ w23 : World, w23 = w22.setCell ⟨qb, 2, none⟩ (.int .i64 N.1) := ⟨_, rfl⟩
        rw [← hw23]
        have hd := HD.out.put (n' := N.1)
        rw [← hw23] at hd
        clear HD hw23 x2 xf2
        obtain ⟨st9, hst9⟩ : ∃ st9, N.2 = st9 := ⟨_, rfl⟩
        have hd9 := hd
        rw [hst9] at hd9
        have HD := Lib.hid hd9
        clear hd9
        have g0 := hd.res.cell 0
        have g1 := hd.res.cell 1
        have g2 := hd.res.cell 2
        have gf0 := hd.res.frozen 0
        have gf1 := hd.res.frozen 1
        have gf2 := hd.res.frozen 2
        simp at g0 g1 g2
        clear hd
        cases st9 with
        | inl k9 =>
          by_cases hk9 : k9 < s.size
          · have hend := HFE.out 20 (by rw [hst9]; unfold endS; dsimp only; rw [if_pos (by rw [pa_len]; exact hk9)])
            obtain ⟨k, b, p, hB, hk, hb0, hkk⟩ := HD.out.rd
            subst hk
            have q9 : decide ((k : Int) < (s.size : Int)) = true := by simp; omega
            have y1 := hB.cell 1
            simp at y1
            clear hst9 hB
            have HEND := Lib.hid hend
            clear hend
            go_wp2_with fail
            refine (rp_fail r s (.inl k) _ 20 (by decide) _ HD.out.rd).mono ?_
            rintro e w24 ⟨rfl, hR, h6⟩
            have hd := HD.out.call hR h6
            clear HD h6 hR
            have HD := Lib.hid hd
            clear hd
            clear y1 g0 g1 g2 gf0 gf1 gf2
            obtain ⟨k8, b8, p8, hB8, hb8, hc8⟩ := HD.out.rd
            have hb8 : b8 = 20 := hb8
            rw [hb8] at hB8
            clear hb8
            have y2 := hB8.cell 2
            have y3 := hB8.cell 3
            have g0 := HD.out.res.cell 0
            have g1 := HD.out.res.cell 1
            have g2 := HD.out.res.cell 2
            have gf0 := HD.out.res.frozen 0
            have gf1 := HD.out.res.frozen 1
            have gf2 := HD.out.res.frozen 2
            have hrg := HD.out.ne.1
            simp at y2 y3 g0 g1 g2
            have qb8 : ((20 : Int) != 0) = true := bne_iff_ne.2 hc8
            have HC8 := Lib.hid hc8
            clear hc8
            clear hB8
            go_upto_region 31 with fail
            go_cut [3, 4] (fun u v wx => u = .int .i64 p8 ∧ v = .int .i64 20 ∧ Blk wx g 75 #[.slice none 0 0, .slice none 0 0, .int .i64 0] ∧ Chg (fun k => k = g) w24 wx)
            case first =>
              go_region_law (fail)
              all_goals
                go_wp2_with fail
                go_meet
                refine ⟨rfl, rfl, ?_, ?_⟩
                · have hz := ((HD.out.res.set_ 0 (.slice none 0 0)).set_ 1 (.slice none 0 0)).set_ 2 (.int .i64 0)
                  exact Blk.drew (by simpa using hz)
                · exact (Chg.seto (Chg.seto (Chg.seto (Chg.refl _ _)))).drew
            case rest =>
            obtain ⟨rfl, rfl, hbz, hcz⟩ := hcut
            have hcw := HD.out.chg.trans hcz fun b hb e => by have := HD.out.hg; omega
            have zx0 := hbz.cell 0
            have zx1 := hbz.cell 1
            have zx2 := hbz.cell 2
            simp at zx0 zx1 zx2
            clear y2 y3 g0 g1 g2 gf0 gf1 gf2
            have HCW := Lib.hid hcw
            have HBZ := Lib.hid hbz
            have HCZ := Lib.hid hcz
            clear hcw hbz hcz
            go_wp2_with fail
            refine bodyPost_ret (v := .tuple #[.agg #[.slice none 0 0, .slice none 0 0, .int .i64 0], .int .i64 p8, .int .i64 20]) (by simp [results, Tryz.results23, go_sem, zx0, zx1, zx2]) rfl ?_
            rw [HEND.out]
            exact ⟨HC8.out, p8, rfl, HCW.out⟩
          · have hend := HFO.out k9 (by rw [hst9]; unfold endS; dsimp only; rw [if_neg (by rw [pa_len]; exact hk9)])
            obtain ⟨k, b, p, hB, hk, hb0, hkk⟩ := HD.out.rd
            subst hk hb0
            have q9 : decide ((k : Int) < (s.size : Int)) = false := by simp; omega
            have y1 := hB.cell 1
            have y2 := hB.cell 2
            have x0 := HD.out.blk.cell 0
            have x1 := HD.out.blk.cell 1
            have x2 := HD.out.blk.cell 2
            simp at y1 y2 x0 x1 x2
            clear hst9 hB
            have HEND := Lib.hid hend
            clear hend
            go_wp2_with fail
            obtain ⟨wz, hwz⟩ : ∃ wz : World, wz = ((w23.setCell ⟨g, 0, none⟩ (.slice a L.length c)).setCell ⟨g, 1, none⟩ (.slice a2 n2 c2)).setCell ⟨g, 2, none⟩ (.int .i64 N.1) := ⟨_, rfl⟩
            have hcz : Chg (fun k => k = g) w23 wz := by rw [hwz]; exact Chg.seto (Chg.seto (Chg.seto (Chg.refl _ _)))
            have hbz : Blk wz g 75 #[.slice a L.length c, .slice a2 n2 c2, .int .i64 N.1] := by rw [hwz]; have hz := ((HD.out.res.set_ 0 (.slice a L.length c)).set_ 1 (.slice a2 n2 c2)).set_ 2 (.int .i64 N.1); simpa using hz
            have hsz := HD.out.steps.chg hcz fun b hb e => (HD.out.sne b hb).2.1 e
            have hkz := HD.out.conds.chg hcz fun b hb e => (HD.out.cne b hb).2.1 e
            have hcw := HD.out.chg.trans hcz fun b hb e => by have := HD.out.hg; omega
            rw [← hwz]
            have zx0 := hbz.cell 0
            have zx1 := hbz.cell 1
            have zx2 := hbz.cell 2
            simp at zx0 zx1 zx2
            refine bodyPost_ret (v := .tuple #[.agg #[.slice a L.length c, .slice a2 n2 c2, .int .i64 N.1], .int .i64 0, .int .i64 0]) (by simp [results, Tryz.results23, go_sem, zx0, zx1, zx2]) rfl ?_
            rw [HEND.out]
            exact ⟨_, _, rfl, by rw [HSS2.out]; exact hsz, hkz, hcw⟩
        | inr d =>
          have hend := HFE.out d (by rw [hst9]; rfl)
          obtain ⟨k, b, p, hB, hb0, hd0⟩ := HD.out.rd
          have y1 := hB.cell 1
          simp at y1
          clear hst9 hB hb0 hd0
          have HEND := Lib.hid hend
          clear hend
          by_cases hk9 : k < s.size
          · have q9 : decide ((k : Int) < (s.size : Int)) = true := by simp; omega
            go_wp2_with fail
            refine (rp_fail r s (.inr d) _ 20 (by decide) _ HD.out.rd).mono ?_
            rintro e w24 ⟨rfl, hR, h6⟩
            have hd := HD.out.call hR h6
            clear HD h6 hR
            have HD := Lib.hid hd
            clear hd
            clear y1 g0 g1 g2 gf0 gf1 gf2
            obtain ⟨k8, b8, p8, hB8, hb8, hc8⟩ := HD.out.rd
            have hb8 : b8 = d := hb8
            rw [hb8] at hB8
            clear hb8
            have y2 := hB8.cell 2
            have y3 := hB8.cell 3
            have g0 := HD.out.res.cell 0
            have g1 := HD.out.res.cell 1
            have g2 := HD.out.res.cell 2
            have gf0 := HD.out.res.frozen 0
            have gf1 := HD.out.res.frozen 1
            have gf2 := HD.out.res.frozen 2
            have hrg := HD.out.ne.1
            simp at y2 y3 g0 g1 g2
            have qb8 : ((d : Int) != 0) = true := bne_iff_ne.2 hc8
            have HC8 := Lib.hid hc8
            clear hc8
            clear hB8
            go_upto_region 31 with fail
            go_cut [3, 4] (fun u v wx => u = .int .i64 p8 ∧ v = .int .i64 d ∧ Blk wx g 75 #[.slice none 0 0, .slice none 0 0, .int .i64 0] ∧ Chg (fun k => k = g) w24 wx)
            case first =>
              go_region_law (fail)
              all_goals
                go_wp2_with fail
                go_meet
                refine ⟨rfl, rfl, ?_, ?_⟩
                · have hz := ((HD.out.res.set_ 0 (.slice none 0 0)).set_ 1 (.slice none 0 0)).set_ 2 (.int .i64 0)
                  exact Blk.drew (by simpa using hz)
                · exact (Chg.seto (Chg.seto (Chg.seto (Chg.refl _ _)))).drew
            case rest =>
            obtain ⟨rfl, rfl, hbz, hcz⟩ := hcut
            have hcw := HD.out.chg.trans hcz fun b hb e => by have := HD.out.hg; omega
            have zx0 := hbz.cell 0
            have zx1 := hbz.cell 1
            have zx2 := hbz.cell 2
            simp at zx0 zx1 zx2
            clear y2 y3 g0 g1 g2 gf0 gf1 gf2
            have HCW := Lib.hid hcw
            have HBZ := Lib.hid hbz
            have HCZ := Lib.hid hcz
            clear hcw hbz hcz
            go_wp2_with fail
            refine bodyPost_ret (v := .tuple #[.agg #[.slice none 0 0, .slice none 0 0, .int .i64 0], .int .i64 p8, .int .i64 d]) (by simp [results, Tryz.results23, go_sem, zx0, zx1, zx2]) rfl ?_
            rw [HEND.out]
            exact ⟨HC8.out, p8, rfl, HCW.out⟩
          · have q9 : decide ((k : Int) < (s.size : Int)) = false := by simp; omega
            clear g0 g1 g2 gf0 gf1 gf2
            obtain ⟨k8, b8, p8, hB8, hb8, hc8⟩ := HD.out.rd
            have hb8 : b8 = d := hb8
            rw [hb8] at hB8
            clear hb8
            have y2 := hB8.cell 2
            have y3 := hB8.cell 3
            have g0 := HD.out.res.cell 0
            have g1 := HD.out.res.cell 1
            have g2 := HD.out.res.cell 2
            have gf0 := HD.out.res.frozen 0
            have gf1 := HD.out.res.frozen 1
            have gf2 := HD.out.res.frozen 2
            have hrg := HD.out.ne.1
            simp at y2 y3 g0 g1 g2
            have qb8 : ((d : Int) != 0) = true := bne_iff_ne.2 hc8
            have HC8 := Lib.hid hc8
            clear hc8
            clear hB8
            go_upto_region 31 with fail
            go_cut [3, 4] (fun u v wx => u = .int .i64 p8 ∧ v = .int .i64 d ∧ Blk wx g 75 #[.slice none 0 0, .slice none 0 0, .int .i64 0] ∧ Chg (fun k => k = g) w23 wx)
            case first =>
              go_region_law (fail)
              all_goals
                go_wp2_with fail
                go_meet
                refine ⟨rfl, rfl, ?_, ?_⟩
                · have hz := ((HD.out.res.set_ 0 (.slice none 0 0)).set_ 1 (.slice none 0 0)).set_ 2 (.int .i64 0)
                  exact Blk.drew (by simpa using hz)
                · exact (Chg.seto (Chg.seto (Chg.seto (Chg.refl _ _)))).drew
            case rest =>
            obtain ⟨rfl, rfl, hbz, hcz⟩ := hcut
            have hcw := HD.out.chg.trans hcz fun b hb e => by have := HD.out.hg; omega
            have zx0 := hbz.cell 0
            have zx1 := hbz.cell 1
            have zx2 := hbz.cell 2
            simp at zx0 zx1 zx2
            clear y2 y3 g0 g1 g2 gf0 gf1 gf2
            have HCW := Lib.hid hcw
            have HBZ := Lib.hid hbz
            have HCZ := Lib.hid hcz
            clear hcw hbz hcz
            go_wp2_with fail
            refine bodyPost_ret (v := .tuple #[.agg #[.slice none 0 0, .slice none 0 0, .int .i64 0], .int .i64 p8, .int .i64 d]) (by simp [results, Tryz.results23, go_sem, zx0, zx1, zx2]) rfl ?_
            rw [HEND.out]
            exact ⟨HC8.out, p8, rfl, HCW.out⟩
      | true =>
        obtain ⟨rfl, hnb⟩ : b = true ∧ badS st = false := by simpa using hmb
        rw [hmb] at ht
        subst ht
        have hl8 := HL8.out rfl hnb
        obtain ⟨m1, m2⟩ := moreS_step (s := s.data.toList) hnb hl8
        have hss := HSS2.out.trans m2
        obtain ⟨X, hX⟩ : ∃ x, stepS s.data.toList L.length st = x := ⟨_, rfl⟩
        rw [hX] at m1 hss
        have hst0 := fun W hW => rp_step r s st L.length (by omega) hs W hW
        rw [hX] at hst0
        have hst : ∀ W, QRd W r s st → Calls Tryz.prog 41 #[.pointer (some ⟨r, 0, none⟩), .int .i64 (L.length : Int)] W (QPost W r s (.agg #[bV X.1.kind, bV X.1.name, .bool X.1.no, .int .i64 X.1.min, .int .i64 X.1.max]) X.2) := hst0
        have x0 := HD.out.blk.cell 0
        simp at x0
        clear hmb HL8 HBAD HSS2 y2 m2 hst0
        have HSS2 := Lib.hid hss
        have M1 := Lib.hid m1
        have HNB := Lib.hid hnb
        have HX := Lib.hid hX
        have HST := Lib.hid hst
        clear hss m1 hnb hX hst
        go_wp2_with fail
        refine (HST.out _ HD.out.rd).mono ?_
        rintro e w3 ⟨rfl, hR, h6⟩
        have hd := HD.out.call hR h6
        clear HD h6 hR
        have HD := Lib.hid hd
        clear hd
        clear x0
        go_upto_region 9 with fail
        have hdl := HD.out.blk.lt
        obtain ⟨w4, hw4⟩ : ∃ w4, w4 = w3.alloc (.cells #[bV X.1.kind, bV X.1.name, .bool X.1.no, .int .i64 X.1.min, .int .i64 X.1.max] 130) := ⟨_, rfl⟩
        have hd4 := HD.out.same (w' := w4) (by rw [hw4]; exact (Chg.refl _ _).alloc _)
        have hx4 : Blk w4 w3.heap.size 130 #[bV X.1.kind, bV X.1.name, .bool X.1.no, .int .i64 X.1.min, .int .i64 X.1.max] := by rw [hw4]; exact Blk.new _ _ _
        clear HD
        have HD := Lib.hid hd4
        have HW4 := Lib.hid hw4
        have HX4 := Lib.hid hx4
        clear hd4 hw4 hx4
        rw [← HW4.out]
        have x0 := HX4.out.cell 0
        have x1 := HX4.out.cell 1
        have x2 := HX4.out.cell 2
        have x3 := HX4.out.cell 3
        have x4 := HX4.out.cell 4
        have z0 := HD.out.blk.cell 0
        simp at x0 x1 x2 x3 x4 z0
        go_wp2_with (at_builtin; refine wpList_lst_app rstepOk _ (by rfl) _ _ (by rfl) L (.slice a L.length c) X.1 (by rfl) (HD.out.steps.same ((Chg.refl _ _).alloc _)) _ (by rfl) (by omega) (by show Blk _ _ 130 #[bV X.1.kind, bV X.1.name, .bool X.1.no, .int .i64 X.1.min, .int .i64 X.1.max]; exact Blk.new _ _ _) ?_)
        intro v' w5 hO hc5 hk5
        obtain ⟨a5, n5, p5, rfl⟩ := lst_sl rstepOk hO
        have hda := HD.out.same ((Chg.refl _ _).alloc (.cells #[bV X.1.kind, bV X.1.name, .bool X.1.no, .int .i64 X.1.min, .int .i64 X.1.max] 130))
        have hb5 := hda.blk.chg hc5 fun e => (hda.sne qb e).2.2 rfl
        have hd6 := hda.step hO hc5 (fun k hk => by have := hk5 k hk; simpa using this)
        have e := hd6.snorm
        rw [List.length_append, List.length_singleton] at e
        subst e
        have y5 := hb5.cell 0
        have f5 := hb5.frozen 0
        simp at y5
        clear x0 x1 x2 x3 x4 z0 hO hc5 hk5 hda hb5 HD HX4
        have HD := Lib.hid hd6
        clear hd6
        go_upto_region 10 with fail
        obtain ⟨w6, hw6⟩ : ∃ w6 : World, w6 = w5.setCell ⟨qb, 0, none⟩ (.slice a5 (L.length + 1) p5) := ⟨_, rfl⟩
        rw [← hw6] at HD ⊢
        clear hw6 y5 f5
        cases hmn : isS s.data.toList 44 44 X.2 with
        | true =>
          have hss := HSS2.out
          have h8 : L.length ≠ 8 := fun e => by rw [M1.out e] at hmn; cases hmn
          rw [hmn, if_pos rfl] at hss
          clear HSS2
          have HSS2 := Lib.hid hss
          clear hss
          have hxx := rp_next r s _ 44 44 _ _ rfl rfl _ HD.out.rd
          rw [hmn] at hxx
          have HXX := Lib.hid hxx
          clear hxx
          go_wp2_with fail
          refine (HXX.out).mono ?_
          rintro e w7 ⟨rfl, hR, h6⟩
          have hd := HD.out.call hR h6
          clear HD h6 hR
          have HD := Lib.hid hd
          clear hd
          clear HXX
          go_wp2_with fail
          refine (rp_take r s X.2 44 44 _ _ rfl rfl hs _ HD.out.rd).mono ?_
          rintro e w8 ⟨rfl, hR, h6⟩
          have hd := HD.out.call hR h6
          clear HD h6 hR
          have HD := Lib.hid hd
          clear hd
          have x0 := HD.out.blk.cell 0
          simp only [List.getElem?_toArray, List.getElem?_cons_zero] at x0
          have hm2 := lenAtD_of (m := 10) x0
          clear x0 hmn
          have HM2 := Lib.hid hm2
          clear hm2
          go_wp2_with fail
          have hd := HD.out
          rw [show L.length + 1 = (L ++ [X.1]).length by simp] at hd
          refine ⟨⟨true, a5, p5, L ++ [X.1], _, rfl, hd, by simp; omega, by simp; omega, HSS2.out⟩, ?_⟩
          rw [HM2.out, HM.out]
          omega
        | false =>
          have hss := HSS2.out
          rw [hmn, if_neg (by decide)] at hss
          clear HSS2
          have HSS2 := Lib.hid hss
          clear hss
          have hxx := rp_next r s _ 44 44 _ _ rfl rfl _ HD.out.rd
          rw [hmn] at hxx
          have HXX := Lib.hid hxx
          clear hxx
          go_wp2_with fail
          refine (HXX.out).mono ?_
          rintro e w7 ⟨rfl, hR, h6⟩
          have hd := HD.out.call hR h6
          clear HD h6 hR
          have HD := Lib.hid hd
          clear hd
          clear HXX
          have x0 := HD.out.blk.cell 0
          simp only [List.getElem?_toArray, List.getElem?_cons_zero] at x0
          have hm2 := lenAtD_of (m := 10) x0
          clear x0 hmn
          have HM2 := Lib.hid hm2
          clear hm2
          go_wp2_with fail
          have hd := HD.out
          rw [show L.length + 1 = (L ++ [X.1]).length by simp] at hd
          refine ⟨⟨false, a5, p5, L ++ [X.1], _, rfl, hd, by simp; omega, (fun e => by cases e), HSS2.out⟩, ?_⟩
          rw [HM2.out, HM.out]
          omega
end Go.Proofs.YtjloddlkleileaaGreatDoor
