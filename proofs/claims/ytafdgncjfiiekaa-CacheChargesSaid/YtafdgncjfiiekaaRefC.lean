/-
  The document's list of blocks (oxbowref12): what it is in memory; Cost, Left, Find.
-/
import Derived.Test.YtafdgncjfiiekaaCacheL
import Derived.Test.YtafdgncjfiiekaaBudR
namespace Go.Proofs.Ytafdgncjfiiekaa
open Go.RowKit
set_option linter.unusedVariables false
set_option linter.unusedSimpArgs false

def blocksFlat (L : List Node) : List Value := L.flatMap fun x => [.int .i64 x.file, .int .i64 x.blk, .string x.data, .int .i64 x.pins]
theorem blocksFlat_len (L : List Node) : (blocksFlat L).length = L.length * 4 := by
  induction L with
  | nil => rfl
  | cons x xs ih => simp [blocksFlat] at ih ⊢; omega
theorem blocksFlat_at (A M : List Node) (x : Node) : (blocksFlat (A ++ x :: M))[A.length * 4]? = some (.int .i64 x.file) ∧ (blocksFlat (A ++ x :: M))[A.length * 4 + 1]? = some (.int .i64 x.blk) ∧
    (blocksFlat (A ++ x :: M))[A.length * 4 + 2]? = some (.string x.data) ∧ (blocksFlat (A ++ x :: M))[A.length * 4 + 3]? = some (.int .i64 x.pins) := by
  have e : blocksFlat (A ++ x :: M) = blocksFlat A ++ ([.int .i64 x.file, .int .i64 x.blk, .string x.data, .int .i64 x.pins] ++ blocksFlat M) := by simp [blocksFlat]
  have hl := blocksFlat_len A
  rw [e]
  refine ⟨?_, ?_, ?_, ?_⟩ <;> (rw [List.getElem?_append_right (by omega)]; rw [hl]; simp)

/-- The reference's cache r: its list v (of the call's own, from 'base' on), its budget rb. -/
structure RCacheAt (w : World) (r rb base : Nat) (v : Value) (L : List Node) (B : Bud) : Prop where
  blk : Blk w r 65 #[v, .pointer (some ⟨rb, 0, none⟩)]
  own : w.ownsRow base 95 4 v L.length (blocksFlat L)
  bud : RBudAt w rb B

theorem blocks_form {w : World} {base : Nat} {v : Value} {n : Nat} {xs : List Value} (h : w.ownsRow base 95 4 v n xs) :
    ∃ a cap, v = .slice a n cap ∧ n ≤ 9223372036854775807 ∧ (0 < n → ∃ b, a = some ⟨b, 0, none⟩ ∧ base ≤ b ∧ b < w.heap.size ∧ (∃ cs, Blk w b 95 cs) ∧ ∀ i x, xs[i]? = some x → w.cell? ⟨b, i, none⟩ = some x) := by
  have h' := h
  rcases h.2 with ⟨rfl, hn⟩ | ⟨g, cap, cur, rfl, hg, hh, hn, hm, hsz, htake⟩
  · exact ⟨none, 0, by rw [hn], by omega, fun h => by omega⟩
  · unfold maxLen at hm
    refine ⟨_, cap, rfl, by omega, fun _ => ⟨g, rfl, hg, ?_, ⟨_, hh⟩, fun i x hx => ?_⟩⟩
    · exact (show Blk w g _ _ from hh).lt
    have hc := h'.cells (g := g) rfl
    have := hc i x hx
    have e : (⟨g, 0, none⟩ : Addr).add i = ⟨g, i, none⟩ := by unfold Addr.add; split <;> (first | (simp; done) | (simp; omega))
    rw [e] at this
    exact this

theorem ref_cost (s : ByteArray) (hs : s.size ≤ 9223372036854775000) (w : World) :
    Calls Try.prog 37 #[.string s] w fun e w' => e = .returned (.int .i64 (64 + (s.size : Int))) ∧ w = w' := by
  go_enter Try.func37, Try.ntmps37
  go_wp2
  go_ret
  refine ⟨?_, rfl⟩
  show Ending.returned (.int .i64 ((s.size : Int) + 64)) = _
  rw [Int.add_comm]

theorem ref_left (r rb base : Nat) (v : Value) (L : List Node) (B : Bud) (w : World) (h : RCacheAt w r rb base v L B) :
    Calls Try.prog 65 #[.pointer (some ⟨r, 0, none⟩)] w fun e w' => e = .returned (.int .i64 (B.l - B.u)) ∧ ∃ n, w.drewN n = w' := by
  have c0 := h.blk.cell 0
  have c1 := h.blk.cell 1
  simp at c0 c1
  have g := h.bud.good
  have l0 := g.l0; have l1 := g.l1; have uh := g.uh; have hl := g.hl; have u0 := g.u0
  have a0 := g.a0; have b0 := g.b0; have cc0 := g.c0; have d0 := g.d0
  have H := Lib.hid h
  have hu : 0 ≤ B.u := by omega
  clear h g u0
  go_enter Try.func65, Try.ntmps65
  go_wp2_with fail
  refine (rbud_used rb B w H.out.bud).mono ?_
  rintro e w' ⟨rfl, n, rfl⟩
  have l := H.out.bud.blk.cell 0
  simp at l
  have hwr : IntKind.i64.wrap (B.l - B.u) = B.l - B.u := IntWalk.i64_in _ (by omega)
  go_wp2_with fail
  go_ret
  exact ⟨rfl, ⟨n, rfl⟩⟩
/-- The place of a block, counted from k; -1: it isn't kept. -/
def findFrom (f b : Int) : Nat → List Node → Int
  | _, [] => -1
  | k, x :: xs => if x.file = f ∧ x.blk = b then k else findFrom f b (k + 1) xs

set_option maxRecDepth 100000 in
set_option maxHeartbeats 2000000 in
theorem ref_find (r rb base : Nat) (v : Value) (L : List Node) (B : Bud) (f b : Int) (w : World) (h : RCacheAt w r rb base v L B) :
    Calls Try.prog 62 #[.pointer (some ⟨r, 0, none⟩), .int .i64 f, .int .i64 b] w fun e w' => e = .returned (.int .i64 (findFrom f b 0 L)) ∧ ∃ n, w.drewN n = w' := by
  have c0 := h.blk.cell 0
  simp at c0
  obtain ⟨a, cap, rfl, hn, hread⟩ := blocks_form h.own
  have HRD := Lib.hid hread
  clear h hread
  go_enter Try.func62, Try.ntmps62
  go_wp2_with fail
  go_loopw [7] (fun i wr => ∃ A R, L = A ++ R ∧ i = .int .i64 A.length ∧ findFrom f b 0 L = findFrom f b A.length R ∧ ∃ n, w.drewN n = wr) (fun i _ => L.length - (intOf i).toNat)
  case atStart => exact ⟨[], L, rfl, rfl, rfl, 0, rfl⟩
  case round =>
    obtain ⟨A, R, hL, rfl, hf, nw, rfl⟩ := hrel
    cases R with
    | nil =>
      have hll : ¬ ((A.length : Int) < (L.length : Int)) := by rw [hL]; simp
      have HF := Lib.hid hf
      clear hL hf
      go_wp2_with fail
      go_ret
      exact ⟨by rw [HF.out]; rfl, nw, rfl⟩
    | cons x M =>
      have hlen : A.length < L.length := by rw [hL]; simp
      obtain ⟨bk, rfl, hb1, hb2, _, hcell⟩ := HRD.out (by omega)
      obtain ⟨q0, q1, _, _⟩ := blocksFlat_at A M x
      rw [← hL] at q0 q1
      have z0 := hcell _ _ q0
      have z1 := hcell _ _ q1
      have hlt : (A.length : Int) < (L.length : Int) := by omega
      have hge : (0 : Int) ≤ (A.length : Int) := by omega
      have HF := Lib.hid hf
      have HL := Lib.hid hL
      clear hf hL hcell q0 q1
      by_cases h1 : x.file = f
      · by_cases h2 : x.blk = b
        · go_wp2_with fail
          go_ret
          refine ⟨?_, nw, rfl⟩
          rw [HF.out]
          unfold findFrom
          rw [if_pos ⟨h1, h2⟩]
          rfl
        · go_wp2_with fail
          refine ⟨⟨A ++ [x], M, by rw [HL.out]; simp, by simp, ?_, nw, rfl⟩, by simp [intOf]; omega⟩
          rw [HF.out]
          rw [findFrom, if_neg (fun e => h2 e.2)]
          simp
      · go_wp2_with fail
        refine ⟨⟨A ++ [x], M, by rw [HL.out]; simp, by simp, ?_, nw, rfl⟩, by simp [intOf]; omega⟩
        rw [HF.out]
        rw [findFrom, if_neg (fun e => h1 e.1)]
        simp
end Go.Proofs.Ytafdgncjfiiekaa
