/-
  The cache: 'all' at Drop's closure.
  The cache's list: what is taken out, and what is left. Plain lemmas; no program's text.
  The cache: contracts of Shrink and Drop.
  The cache: contracts of New, Put, Kept.
  The cache: the contract of Kept.
  The names of a disk's map, as the shelf's contracts on maps.Keys and slices.Sorted want them.
  The disk: List.
  What manifests make of a disk: plain data. No program's text.
-/
import Derived.Test.YtljabmkmngbhkaaGreatDoorZCacheF
import Derived.Test.YtljabmkmngbhkaaGreatDoorZMg10
import Derived.Sort.KeysCollected
import Derived.Test.YtljabmkmngbhkaaGreatDoorIter
import Derived.Test.YtljabmkmngbhkaaGreatDoorZMg12
import Derived.Test.YtljabmkmngbhkaaGreatDoorZMg13
namespace Go.Proofs.YtljabmkmngbhkaaGreatDoor
open Go.RowKit
set_option linter.unusedVariables false
set_option linter.unusedSimpArgs false

end Go.Proofs.YtljabmkmngbhkaaGreatDoor
namespace Go.Proofs.YtljabmkmngbhkaaGreatDoor
open Go.RowKit
set_option linter.unusedVariables false

/-- The nodes of L but those of E. -/
def rem (L E : List Node) : List Node := L.filter fun x => !(E.any fun y => y.id == x.id)
/-- The budget when those of E are given back. -/
def bdrop (B : Bud) (E : List Node) : Bud := E.foldl (fun B x => (B.release 1 (costOf x)).2) B

theorem rem_nil (L : List Node) : rem L [] = L := by simp [rem]
theorem rem_snoc (L E : List Node) (x : Node) : rem L (E ++ [x]) = (rem L E).filter fun y => !(x.id == y.id) := by
  unfold rem
  rw [List.filter_filter]
  congr 1
  funext y
  simp [List.any_append, Bool.and_comm]
theorem rem_mid {A M : List Node} {x : Node} (h : CApart (A ++ x :: M)) : ((A ++ x :: M).filter fun y => !(x.id == y.id)) = A ++ M := by
  obtain ⟨hA, hM, _⟩ := h.mid
  have f1 : ∀ l : List Node, (∀ y ∈ l, y.id ≠ x.id) → (l.filter fun y => !(x.id == y.id)) = l := fun l hl => by
    rw [List.filter_eq_self]
    intro y hy
    have := hl y hy
    simp; omega
  rw [List.filter_append, List.filter_cons, f1 A hA, f1 M hM]
  simp
theorem CApart.sub {L M : List Node} (h : CApart L) (hs : M.Sublist L) : CApart M := List.Pairwise.sublist hs h
theorem rem_sub (L E : List Node) : (rem L E).Sublist L := List.filter_sublist
theorem mem_rem {L E : List Node} {x : Node} : x ∈ rem L E ↔ x ∈ L ∧ ∀ y ∈ E, y.id ≠ x.id := by
  simp [rem, List.mem_filter]

theorem pick_sub (n : Int) : ∀ (l : Int) (L : List Node), (pick n l L).1.Sublist L
  | l, [] => by simp [pick]
  | l, x :: xs => by
    unfold pick
    split
    · exact (pick_sub n _ xs).cons_cons x
    · exact (pick_sub n _ xs).cons x
theorem len_of_total {L : List Node} (h : total L ≤ 1099511627776) : L.length ≤ 17179869184 := by
  have : ∀ L : List Node, 64 * (L.length : Int) ≤ total L := by
    intro L
    induction L with
    | nil => simp [total]
    | cons x xs ih => have := costOf_pos x; simp only [total, List.length_cons]; omega
  have := this L
  omega

/-- Shrink, as a function: is so much given back; what is left; the budget. -/
def shrink (L : List Node) (B : Bud) (n : Int) : Bool × List Node × Bud :=
  if (pick n (B.l - B.u) L).2 < n then (false, L, B) else (true, rem L (pick n (B.l - B.u) L).1, bdrop B (pick n (B.l - B.u) L).1)

theorem CApart.rem {L E : List Node} (h : CApart L) : CApart (rem L E) := h.sub (rem_sub L E)
end Go.Proofs.YtljabmkmngbhkaaGreatDoor
namespace Go.Proofs.YtljabmkmngbhkaaGreatDoor
open Go.RowKit
set_option linter.unusedVariables false
set_option linter.unusedSimpArgs false

theorem CacheAt.tot_le {w : World} {c g m : Nat} {L : List Node} {B : Bud} (h : CacheAt w c g m L B) : B.b = total L ∧ total L ≤ B.u ∧ B.u ≤ B.l ∧ B.l ≤ 1099511627776 := by
  obtain ⟨l0, l1, a0, b0, c0, d0, u0, uh, hl⟩ := h.bud.good
  have := h.tot
  refine ⟨this, ?_, by omega, l1⟩
  omega
theorem HoldsNodes.form {w : World} {base : Nat} {v : Value} {D : List Node} (h : HoldsNodes w base v D) :
    ∃ a cap, v = .slice a D.length cap ∧ D.length ≤ 9223372036854775807 ∧ (0 < D.length → ∃ b, a = some ⟨b, 0, none⟩ ∧ base ≤ b ∧ ∀ i x, D[i]? = some x → w.cell? ⟨b, i, none⟩ = some (nptr x)) := by
  have h' := h
  rcases h.2 with ⟨rfl, hn⟩ | ⟨g, cap, cur, rfl, hg, hh, hn, hm, hsz, htake⟩
  · exact ⟨none, 0, by rw [hn], by omega, fun h => by omega⟩
  · unfold maxLen at hm
    refine ⟨_, cap, rfl, by omega, fun _ => ⟨g, rfl, hg, fun i x hx => ?_⟩⟩
    have hc := h'.cells (g := g) rfl
    have := hc i (nptr x) (by simp [hx])
    have e : (⟨g, 0, none⟩ : Addr).add i = ⟨g, i, none⟩ := by unfold Addr.add; split <;> (first | (simp; done) | (simp; omega))
    rw [e] at this
    exact this

/-- The loop that drops one node after the other: what holds when the first i of D are out. -/
structure Dropped (w0 w : World) (c g m : Nat) (L D : List Node) (B : Bud) (i : Nat) : Prop where
  at_ : CacheAt w c g m (rem L (D.take i)) (bdrop B (D.take i))
  chg : Chg (FootC c g m L) w0 w

theorem foot_sub {c g m : Nat} {L M : List Node} (h : ∀ x ∈ M, x ∈ L) {k : Nat} (hk : FootC c g m M k) : FootC c g m L k := by
  rcases hk with e | e | e | ⟨y, hy, e⟩
  · exact .inl e
  · exact .inr (.inl e)
  · exact .inr (.inr (.inl e))
  · exact .inr (.inr (.inr ⟨y, h y hy, e⟩))

/-- One more node is dropped. -/
theorem drop_next {w0 w : World} {c g m : Nat} {L D : List Node} {B : Bud} {i : Nat} (h : Dropped w0 w c g m L D B i) (hA : CApart L) (hD : D.Sublist L) (hi : i < D.length) :
    Calls Tryz.prog 133 #[.pointer (some ⟨c, 0, none⟩), nptr D[i]] w fun e w' => e = .returned (.tuple #[]) ∧ Dropped w0 w' c g m L D B (i + 1) ∧ Chg (FootC c g m L) w w' := by
  have hDA : CApart D := hA.sub hD
  have hx : D[i] ∈ rem L (D.take i) := mem_rem.2 ⟨hD.subset (List.getElem_mem hi), fun y hy => by
    unfold CApart at hDA
    rw [List.pairwise_iff_getElem] at hDA
    obtain ⟨j, hj, rfl⟩ := List.mem_iff_getElem.1 hy
    rw [List.length_take] at hj
    rw [List.getElem_take]
    exact hDA j i (by omega) hi (by omega)⟩
  obtain ⟨A, M, hAM⟩ := List.append_of_mem hx
  have hcur := h.at_
  have hap := hcur.ring.apart
  rw [hAM] at hcur hap
  have htake : D.take (i + 1) = D.take i ++ [D[i]] := by rw [List.take_succ_eq_append_getElem hi]
  refine (cache_drop1 c g m A M D[i] _ w hcur).mono ?_
  rintro e w' ⟨rfl, hc, hch⟩
  have hch' : Chg (FootC c g m L) w w' := hch.mono fun k _ hk => foot_sub (fun y hy => (rem_sub L (D.take i)).subset (by rw [hAM]; exact hy)) hk
  refine ⟨rfl, ⟨?_, h.chg.then hch'⟩, hch'⟩
  rw [htake, rem_snoc, hAM, rem_mid hap]
  unfold bdrop at *
  rw [List.foldl_append]
  exact hc

set_option maxRecDepth 100000 in
set_option maxHeartbeats 2000000 in
theorem cache_shrink (c g m : Nat) (L : List Node) (B : Bud) (n : Int) (w : World) (h : CacheAt w c g m L B) :
    Calls Tryz.prog 83 #[.pointer (some ⟨c, 0, none⟩), .int .i64 n] w fun e w' => e = .returned (.bool (shrink L B n).1) ∧ CacheAt w' c g m (shrink L B n).2.1 (shrink L B n).2.2 ∧ Chg (FootC c g m L) w w' := by
  obtain ⟨t1, t2, t3, t4⟩ := h.tot_le
  have hlen := len_of_total (L := L) (by omega)
  have hb0 := h.bud.good.b0
  have hgood : ∀ x ∈ L, x.data.size ≤ 140737488355328 := fun x hx => (h.good x hx).data
  have HF : ∀ k, FootC c g m L k → k < w.heap.size := fun k hk => h.foot_lt hk
  have c0 := h.ring.blk.cell 0
  simp [cacheCells, ptr] at c0
  have hclt := h.ring.blk.lt
  have H := Lib.hid h
  have HG := Lib.hid hgood
  have HFT := Lib.hid HF
  clear h hgood HF
  go_enter Tryz.func83, Tryz.ntmps83
  go_wp2_with fail
  have h1 : CacheAt (w.alloc (.cells #[.int .i64 n] 2)) c g m L B := H.out.same cgS
  have hc0' : (w.alloc (.cells #[.int .i64 n] 2)).cell? ⟨c, 0, none⟩ = some (.pointer (some ⟨g, 0, none⟩)) := by
    rw [World.cell?_alloc_lt _ _ _ hclt]; exact c0
  refine (cache_works c g _ hc0').mono ?_
  rintro e w' ⟨rfl, rfl⟩
  go_wp2_with fail
  refine (bud_left g B _ h1.bud).mono ?_
  rintro e w2 ⟨rfl, m2, hw2⟩
  have hc2 : Chg (fun _ => False) w w2 := by rw [← hw2]; exact cgS
  have hp2 : Blk w2 w.heap.size 2 #[.int .i64 n] := by rw [← hw2]; exact (Blk.new w _ _).drewN m2
  have hs2 : w2.heap.size = w.heap.size + 1 := by rw [← hw2]; simp
  have HS2 := Lib.hid hs2
  clear hw2 h1 hc0' c0 hs2
  go_wp2_with fail
  have hwa : CacheAt (w2.alloc (.cells #[.int .i64 (B.l - B.u)] 2)) c g m L B := (H.out.same hc2).same cgS
  have hca : Chg (fun _ => False) w (w2.alloc (.cells #[.int .i64 (B.l - B.u)] 2)) := hc2.alloc _
  refine (cache_all_shrink c g m L w2.heap.size w.heap.size (B.l - B.u) n _ hwa.ring HG.out hlen (Blk.new _ _ _) (hp2.alloc _) (by have := HS2.out; omega) (by omega) (by omega)).mono ?_
  rintro e w3 ⟨v, rfl, hown, hpl3, hc3⟩
  have hp3 : Blk w3 w.heap.size 2 #[.int .i64 n] := (hp2.alloc _).chg hc3 (by have := HS2.out; omega)
  have hw3 : CacheAt w3 c g m L B := hwa.chg hc3 (fun k hk e => by have := HFT.out k hk; have := HS2.out; omega)
  have hcw3 : Chg (fun _ => False) w w3 := hca.own hc3 (by have := HS2.out; omega)
  have hsub := pick_sub n (B.l - B.u) L
  have hsh : shrink L B n = if (pick n (B.l - B.u) L).2 < n then (false, L, B) else (true, rem L (pick n (B.l - B.u) L).1, bdrop B (pick n (B.l - B.u) L).1) := rfl
  have hbase : (w2.alloc (.cells #[.int .i64 (B.l - B.u)] 2)).heap.size = w.heap.size + 2 := by have := HS2.out; simp; omega
  rw [hbase] at hown
  generalize (pick n (B.l - B.u) L).1 = D at hown hsub hsh
  generalize (pick n (B.l - B.u) L).2 = lf at hpl3 hsh
  have q0 := hpl3.cell 0
  have q1 := hp3.cell 0
  simp at q0 q1
  have HSH := Lib.hid hsh
  have HW3 := Lib.hid hw3
  have HSUB := Lib.hid hsub
  clear hwa hca hc3 hc2 hp2 hbase hpl3 hp3 hsh hw3 hsub
  by_cases hlf : lf < n
  · have HLF := Lib.hid hlf
    go_wp2_with fail
    go_ret
    rw [HSH.out, if_pos HLF.out]
    exact ⟨rfl, HW3.out, hcw3.mono (by simp)⟩
  · have HLF := Lib.hid hlf
    obtain ⟨a, cap, rfl, hDl, hread⟩ := hown.form
    have HR := Lib.hid hread
    have hD0 : Dropped w3 w3 c g m L D B 0 := ⟨by simpa [rem_nil, bdrop] using HW3.out, Chg.refl _ _⟩
    clear hread hown
    go_wp2_with fail
    clear q0 q1
    go_loopw [25] (fun i wr => ∃ k : Nat, k ≤ D.length ∧ i = .int .i64 k ∧ Dropped w3 wr c g m L D B k) (fun i _ => D.length - (intOf i).toNat)
    case atStart => exact ⟨0, by omega, rfl, hD0⟩
    case round =>
      obtain ⟨k, hk, rfl, hd⟩ := hrel
      clear hD0
      by_cases hlt : k < D.length
      · obtain ⟨b, rfl, hbb, hcell⟩ := HR.out (by omega)
        have hbl : b < w3.heap.size := World.block_lt_of_cell? w3 _ (hcell k _ (List.getElem?_eq_getElem hlt))
        have y0 := (hd.chg.cell (p := ⟨b, k, none⟩) hbl (fun hf => by have := HFT.out _ hf; simp at this; omega)).trans (hcell k _ (List.getElem?_eq_getElem hlt))
        simp only [nptr] at y0
        have hk0 : (0 : Int) ≤ (k : Int) := by omega
        have hk1 : (k : Int) < (D.length : Int) := by omega
        have hdn := drop_next hd HW3.out.ring.apart HSUB.out hlt
        simp only [nptr] at hdn
        clear hcell hd
        go_wp2_with fail
        refine hdn.mono ?_
        rintro e w5 ⟨rfl, hd5, _⟩
        clear hdn y0
        go_wp2_with fail
        go_roundw
        case rel => exact ⟨k + 1, by omega, by go_num, hd5⟩
        case measure => simp [intOf]; omega
      · have hkD : k = D.length := by omega
        rw [hkD] at hd
        have hd' := hd.at_
        rw [List.take_length] at hd'
        go_wp2_with fail
        go_ret
        rw [HSH.out, if_neg (by have := HLF.out; omega)]
        exact ⟨rfl, hd', (hcw3.mono (T := FootC c g m L) (by simp)).trans hd.chg (fun _ _ h => h)⟩

end Go.Proofs.YtljabmkmngbhkaaGreatDoor
namespace Go.Proofs.YtljabmkmngbhkaaGreatDoor
open Go.RowKit
set_option linter.unusedVariables false
set_option linter.unusedSimpArgs false


/-- New: the cache of any budget, or of none. -/
theorem cache_new_raw (gp : Option Addr) (w : World) :
    Calls Tryz.prog 27 #[.pointer gp] w fun e w' => e = .returned (.pointer (some ⟨w.heap.size + 1, 0, none⟩)) ∧ Blk w' (w.heap.size + 1) 143 #[.pointer gp, .int .i64 0, .int .i64 0, .string ⟨#[]⟩, .int .i64 0, .pointer (some ⟨w.heap.size + 1, 1, none⟩), .pointer (some ⟨w.heap.size + 1, 1, none⟩), .map (some w.heap.size)] ∧
      MapAt Tryz.prog 127 w' w.heap.size 0 (fun _ => none) ∧ Chg (fun _ => False) w w' ∧ w'.heap.size = w.heap.size + 2 := by
  have hmm : ∀ w : World, (Instr.makeMap 138 none).run Tryz.prog w = .ok (.map (some w.heap.size)) (w.alloc (.map #[] 0)) := fun w => run_makeMap 138 w
  go_enter Tryz.func27, Tryz.ntmps27
  go_wp2_with fail
  generalize hw1 : (w.alloc (.map #[] 0)).alloc (.cells #[.pointer gp, .int .i64 0, .int .i64 0, .string ⟨#[]⟩, .int .i64 0, .pointer none, .pointer none, .map (some w.heap.size)] 143) = w1
  have hb1 : Blk w1 (w.heap.size + 1) 143 #[.pointer gp, .int .i64 0, .int .i64 0, .string ⟨#[]⟩, .int .i64 0, .pointer none, .pointer none, .map (some w.heap.size)] := by
    rw [← hw1]
    have := Blk.new (w.alloc (.map #[] 0)) 143 #[.pointer gp, .int .i64 0, .int .i64 0, .string ⟨#[]⟩, .int .i64 0, .pointer none, .pointer none, .map (some w.heap.size)]
    simpa using this
  have hm1 : MapAt Tryz.prog 127 w1 w.heap.size 0 (fun _ => none) := by
    rw [← hw1]
    exact (MapAt.new Tryz.prog 127 w).chg (S := fun _ => False) cgS (by simp)
  have hc1 : Chg (fun _ => False) w w1 := by rw [← hw1]; exact cgS
  have hs1 : w1.heap.size = w.heap.size + 2 := by rw [← hw1]; simp
  have z5 := hb1.cell 5
  have z6 := hb1.cell 6
  have f5 := hb1.frozen 5
  have f6 := hb1.frozen 6
  simp at z5 z6
  have HB := Lib.hid hb1
  have HS := Lib.hid hs1
  clear hw1 hmm hb1 hs1
  go_region
  go_wp2
  all_goals go_ret
  all_goals
    have hset := (HB.out.set_ 5 (.pointer (some ⟨w.heap.size + 1, 1, none⟩))).set_ 6 (.pointer (some ⟨w.heap.size + 1, 1, none⟩))
    have hcc : Chg (fun k => k = w.heap.size + 1) w1 (((w1.setCell ⟨w.heap.size + 1, 5, none⟩ (.pointer (some ⟨w.heap.size + 1, 1, none⟩))).setCell ⟨w.heap.size + 1, 6, none⟩ (.pointer (some ⟨w.heap.size + 1, 1, none⟩))).drew) :=
      Chg.drew (Chg.setOwn (Chg.setOwn (Chg.refl _ _) _ _) _ _)
    exact ⟨rfl, by simpa using Blk.drew hset, hm1.chg hcc (by simp), hc1.own hcc (by omega), by have := HS.out; simp [World.setCell] at this ⊢; omega⟩

theorem cache_new (g : Nat) (B : Bud) (hB : B.b = 0) (w : World) (h : BudAt w g B) :
    Calls Tryz.prog 27 #[.pointer (some ⟨g, 0, none⟩)] w fun e w' => e = .returned (.pointer (some ⟨w.heap.size + 1, 0, none⟩)) ∧ CacheAt w' (w.heap.size + 1) g w.heap.size [] B ∧ Chg (fun _ => False) w w' ∧ w'.heap.size = w.heap.size + 2 :=
  (cache_new_raw (some ⟨g, 0, none⟩) w).mono fun e w' ⟨he, hb, hm, hc, hs⟩ =>
    ⟨he, ⟨⟨hb, trivial, List.Pairwise.nil⟩, ⟨0, _, hm, fun k v => by simp⟩, h.chg hc (by simp), List.Pairwise.nil, by simp, by simp [total, hB]⟩, hc, hs⟩

end Go.Proofs.YtljabmkmngbhkaaGreatDoor
namespace Go.Proofs.YtljabmkmngbhkaaGreatDoor
open Go.RowKit
set_option linter.unusedVariables false
set_option linter.unusedSimpArgs false

theorem info_ckey : (Tryz.prog.info? 127).map (fun i => (i.zero, i.size, i.bytes)) = some (some (.agg #[.int .i64 0, .int .i64 0]), 2, 16) := by kernel_rfl
def keysFlat (L : List Node) : List Value := L.flatMap fun x => [.int .i64 x.file, .int .i64 x.blk]
theorem keysFlat_snoc (L : List Node) (x : Node) : keysFlat (L ++ [x]) = keysFlat L ++ [.int .i64 x.file, .int .i64 x.blk] := by simp [keysFlat]
def KeptPost (w : World) (L : List Node) (e : Ending) (w' : World) : Prop :=
  ∃ v, e = .returned v ∧ w'.ownsRow w.heap.size 127 2 v L.length (keysFlat L.reverse) ∧ Chg (fun _ => False) w w'

set_option maxRecDepth 100000 in
set_option maxHeartbeats 2000000 in
theorem cache_kept (c g m : Nat) (L : List Node) (B : Bud) (w : World) (h : CacheAt w c g m L B) :
    Calls Tryz.prog 56 #[.pointer (some ⟨c, 0, none⟩)] w (KeptPost w L) := by
  obtain ⟨t1, t2, t3, t4⟩ := h.tot_le
  have hlen := len_of_total (L := L) (by omega)
  obtain ⟨i0, hi, hz0, hz1, hz2⟩ := info_parts info_ckey
  have c0 := h.ring.blk.cell 0
  have c5 := h.ring.blk.cell 5
  simp [cacheCells, ptr] at c0 c5
  obtain ⟨hb, ho, hh, hf⟩ := lastAd_form c L
  rw [hh] at c5
  have HH := Lib.hid hh
  have H := Lib.hid h.ring
  clear h hh hf t1 t2 t3 t4
  go_enter Tryz.func56, Tryz.ntmps56
  go_wp2_with fail
  refine (cache_works c g _ c0).mono ?_
  rintro e w' ⟨rfl, rfl⟩
  go_wp2_with fail
  go_loopg [3, 4] L.length (fun k out cur wr => ∃ A R, L = R ++ A ∧ R.length = k ∧ cur = .pointer (some (lastAd R (ring c))) ∧ wr.ownsRow w.heap.size 127 2 out A.length (keysFlat A.reverse) ∧ Chg (fun _ => False) w wr ∧ A.length + R.length ≤ L.length)
  case atStart => exact ⟨[], L, by simp, rfl, by rw [HH.out], ownsRow_none, Chg.refl _ _, by simp⟩
  case round =>
    obtain ⟨A, R, hL, hk, rfl, hown, hc, hDR⟩ := hrel
    clear c0 c5
    have hw : RingAt wr c g m L := H.out.chg (S := fun _ => False) hc (by simp) (by simp)
    obtain ⟨j, hj, hjs⟩ := Option.map_eq_some_iff.1 info_kept
    have hj0 : j.size ≠ 0 := by omega
    rcases List.eq_nil_or_concat R with rfl | ⟨ys, y, rfl⟩
    · have hcmp := run_neq_ptr_same (P := Tryz.prog) wr ⟨c, 1, none⟩ Tryz.underlying139 hj
      simp only [List.nil_append] at hL
      have hfin : KeptPost w L (.returned u3) wr := ⟨u3, rfl, by rw [hL]; exact hown, hc⟩
      have HF := Lib.hid hfin
      clear hL hk hown hc hDR hw hj hfin H HH
      simp only [lastAd, ring]
      go_wp2_with fail
      go_ret
      exact HF.out
    · rw [List.concat_eq_append] at *
      have hyL : y ∈ L := by rw [hL]; simp
      rw [hL, List.append_assoc, List.singleton_append] at hw
      have hyb := hw.seg.at_
      have hcmp := run_neq_ptr_other (P := Tryz.prog) wr (a := ⟨y.id, 0, none⟩) (b := ⟨c, 1, none⟩) Tryz.underlying139 hj hj0 (by simp) hyb hw.blk
      have y0 := hyb.cell 0
      have y1 := hyb.cell 1
      simp [nodeCells] at y0 y1
      obtain ⟨nb, no, hnh, hnf⟩ := lastAd_form c ys
      rw [List.length_append, List.length_singleton] at hDR hk
      have HL := Lib.hid hL
      have HOWN := Lib.hid hown
      have HC := Lib.hid hc
      have HNH := Lib.hid hnh
      have hs0 := hc.size
      simp only [lastAd_snoc, nad]
      clear hL hown hc hw hj hnh hyb
      go_wp2_with (at_builtin; refine wpList_append_own _ rfl _ _ 124 rfl w.heap.size 127 i0 (.agg #[.int .i64 0, .int .i64 0]) 2 16 Tryz.underlying124 hi hz0 hz1 hz2 rfl (by decide) _ _ _ rfl (HOWN.out.alloc _) ⟨wr.heap.size, 0, none⟩ 1 1 [.int .i64 y.file, .int .i64 y.blk] rfl rfl ?c1 ?c2 ?c3 ?c4 ?c5 ?_)
      case c1 => exact World.news_of_block (cs := #[.int .i64 y.file, .int .i64 y.blk]) (t := 127) (fr := (0, 0)) (heap_alloc_new wr _)
      case c2 => simp [Value.oneCell']
      case c3 => unfold maxLen; omega
      case c4 => omega
      case c5 => simp; omega
      intro v6 w6 hown6 hgr _
      have hc6 : Chg (fun _ => False) w w6 := (HC.out.alloc _).grown hgr (fun k hk hlt => absurd (ownsRow_block HOWN.out hk) (by omega))
      have hw6 : RingAt w6 c g m L := H.out.chg (S := fun _ => False) hc6 (by simp) (by simp)
      have y4 : w6.cell? ⟨y.id, 4, none⟩ = some (.pointer (some ⟨nb, no, none⟩)) := by
        rw [HL.out, List.append_assoc, List.singleton_append] at hw6
        have := hw6.seg.at_.cell 4
        simp [nodeCells] at this
        rw [HNH.out] at this
        exact this
      have hfinA : Hid (L = ys ++ (y :: A)) := by show _ = _; rw [HL.out]; simp
      have hfinO : w6.ownsRow w.heap.size 127 2 v6 (y :: A).length (keysFlat (y :: A).reverse) := by
        rw [List.reverse_cons, keysFlat_snoc, List.length_cons]
        exact hown6
      clear hgr hown6 hw6 y0 y1 hcmp
      go_wp2_with fail
      go_roundg ys.length
      case measure => omega
      case rel => exact ⟨y :: A, ys, hfinA.out, rfl, by rw [HNH.out], hfinO, hc6, by rw [List.length_cons]; omega⟩

end Go.Proofs.YtljabmkmngbhkaaGreatDoor
namespace Go.Proofs.YtljabmkmngbhkaaGreatDoor
open Go.RowKit Go.Maps Go.Sort Go.WideElems Go.WideShapes
set_option linter.unusedVariables false
set_option linter.unusedSimpArgs false

theorem nmap_owns {w : World} {b : Nat} {ids : List Nat} {l : Names} (h : NMap w b ids l) (hl : l.length ≤ maxLen) (ho : l.Pairwise fun a b => a.1 ≠ b.1) :
    ∃ D0 : DataW Unit, w.ownsMap Tryz.prog 9 (fun _ => some (.nil, [])) b l.length D0 ∧ Maps.size D0 = l.length ∧ (strKeys D0).Perm (l.map fun p => p.1.data.toList) := by
  obtain ⟨n, f, ⟨es, clock, hb, hsz, S⟩, ht, hn⟩ := h
  have F : Fit (H := Unit) Tryz.prog 9 (fun _ => some (.nil, [])) es clock := ⟨by omega, ⟨S.born, List.pairwise_map.2 S.ages, List.pairwise_map.2 S.apart⟩, fun x hx => by
    obtain ⟨k, hk⟩ := S.keys x hx
    exact ⟨_, rd_mk hk rfl⟩⟩
  refine ⟨_, ⟨es, clock, hb, F, by omega, rfl⟩, ?_, ?_⟩
  · show (((es.toList.map (rg Tryz.prog 9 (fun _ => some (.nil, [])))).foldr DataW.insert []).length) = _
    rw [(sorted_perm _).length_eq]
    simp; omega
  · obtain ⟨G, hG⟩ : ∃ G : MapEntry → List UInt8, G = (fun p => strOf p.1) ∘ rg (H := Unit) Tryz.prog 9 (fun _ => some (.nil, [])) := ⟨_, rfl⟩
    have hg : ∀ x ∈ es.toList, x.key = encStr (G x) := fun x hx => by
      obtain ⟨k, hk⟩ := S.keys x hx
      obtain ⟨s, hs, rfl, _⟩ := Maps.keyOf_str Tryz.underlying9 hk
      rw [hG, Function.comp, rg_of (rd_mk hk rfl)]
      exact hs
    refine ((sorted_perm _).map fun p => strOf p.1).trans ?_
    rw [List.map_map, ← hG]
    clear hG F
    refine (List.perm_ext_iff_of_nodup ?_ ?_).2 fun s => ?_
    · refine List.pairwise_map.2 (S.apart.imp_of_mem fun {a b} ha hb' hne e => hne ?_)
      rw [hg a ha, hg b hb', e]
    · refine List.pairwise_map.2 (ho.imp fun {a b} hne e => hne ?_)
      have := congrArg List.toArray e
      simp at this
      exact ByteArray.ext this
    · have hs := S.says (encStr s)
      constructor
      · intro h
        obtain ⟨x, hx, hxs⟩ := List.mem_map.1 h
        have hk := hg x hx
        rw [hxs] at hk
        obtain ⟨q, hq, hqk, _⟩ := (ht _ _).1 ((hs x.val).2 ⟨x, hx, hk, rfl⟩)
        refine List.mem_map.2 ⟨q, hq, ?_⟩
        simp only [encStr, Value.string.injEq] at hqk
        rw [← hqk]
      · intro h
        obtain ⟨q, hq, hqs⟩ := List.mem_map.1 h
        have hf := (ht (.string q.1) (fptr ids q.2)).2 ⟨q, hq, rfl, rfl⟩
        obtain ⟨x, hx, hxk, _⟩ := (S.says _ _).1 hf
        refine List.mem_map.2 ⟨x, hx, ?_⟩
        have hk := hg x hx
        rw [hxk] at hk
        simp only [encStr, Value.string.injEq] at hk
        rw [← hqs, hk]
end Go.Proofs.YtljabmkmngbhkaaGreatDoor
namespace Go.Proofs.YtljabmkmngbhkaaGreatDoor
open Go.RowKit Go.Maps Go.Sort
set_option linter.unusedVariables false
set_option linter.unusedSimpArgs false

def listD (D : DiskV) : List (List UInt8) := (D.names.map fun p => p.1.data.toList).mergeSort leB
set_option maxRecDepth 100000 in
set_option maxHeartbeats 2000000 in
theorem disk_list (d : Nat) (ids : List Nat) (D : DiskV) (M : Nat → Prop) (hn : D.names.length ≤ 1000000) (w : World) (h : DiskAt w d ids D M) :
    Calls Tryz.prog 65 #[.pointer (some ⟨d, 0, none⟩)] w fun e w' => ∃ v, e = .returned v ∧ w'.ownsRow w.heap.size 9 1 v (listD D).length ((listD D).map encStr) ∧ Chg (fun _ => False) w w' := by
  obtain ⟨hok, y, h⟩ := h
  have c2 := h.blk.cell 2
  simp at c2
  obtain ⟨D0, hown, hsize, hperm⟩ := nmap_owns h.names (by unfold maxLen; omega) hok.names.one
  have hk := callsIn_wide.1 (Tryz.maps_Keys_143 (some y.nm) w)
  have hs := callsIn_wide.1 (Tryz.slices_Sorted_keys_142_143 y.nm _ D0 _ w hown (by rw [hsize]; unfold maxLen; omega) (by rw [hsize]; omega))
  have hlist : ∀ ss : List (List UInt8), ss.Perm (strKeys D0) → ss.mergeSort (fun x y => decide (x ≤ y)) = listD D := fun ss hp => mergeSort_of_perm (hp.trans hperm)
  have HK := Lib.hid hk
  have HS := Lib.hid hs
  have HL := Lib.hid hlist
  clear hk hs hlist hown hsize hperm h hok
  go_enter Tryz.func65, Tryz.ntmps65
  go_wp2_with fail
  refine HK.out.mono ?_
  rintro e w1 ⟨rfl, rfl⟩
  go_wp2_with fail
  refine HS.out.mono ?_
  rintro e w2 ⟨v, ss, rfl, hp, hrow, hnil, hb⟩
  have hll := HL.out ss hp
  go_wp2_with fail
  go_ret
  have hlen : ss.length = (listD D).length := by rw [← hll, List.length_mergeSort]
  rw [hll, hlen] at hrow
  refine ⟨v, rfl, ?_, ?_⟩
  · obtain ⟨h1, h2⟩ := hrow
    refine ⟨h1, ?_⟩
    rcases h2 with h2 | ⟨g, cap, cur, a, b, c⟩
    · exact .inl h2
    · simp at b
      exact .inr ⟨g, cap, cur, a, by omega, c⟩
  · have hc0 : Chg (fun _ => False) w (w.alloc (.cells #[.map (some y.nm)] 87)) := cgS
    exact hc0.then ⟨hb.os, hb.tape, hb.output, hb.size, fun k hk _ => hb.block k hk⟩
end Go.Proofs.YtljabmkmngbhkaaGreatDoor
namespace Go.Proofs.YtljabmkmngbhkaaGreatDoor
open Go.RowKit
set_option linter.unusedVariables false
set_option linter.unusedSimpArgs false

/-- One call, and another behind it if it answers nothing. -/
def andV (x : Int × DiskV) (f : DiskV → Int × DiskV) : Int × DiskV := if x.1 ≠ 0 then x else f x.2
def writeM (D : DiskV) (n s : ByteArray) : Int × DiskV := andV (appendD D n s) fun D => syncD D n
def createM (D : DiskV) (n s : ByteArray) : Int × DiskV := andV (createD D n) fun D => writeM D n s
def nextB : ByteArray := ⟨#[99, 117, 114, 114, 101, 110, 116, 45, 110, 101, 120, 116]⟩
def curB : ByteArray := ⟨#[99, 117, 114, 114, 101, 110, 116]⟩
def kindB : ByteArray := ⟨#[109, 97, 110, 105, 102, 101, 115, 116]⟩
def logK : ByteArray := ⟨#[108, 111, 103]⟩
def tableK : ByteArray := ⟨#[116, 97, 98, 108, 101]⟩
theorem andV_no {x : Int × DiskV} {f : DiskV → Int × DiskV} (h : x.1 ≠ 0) : andV x f = x := if_pos h
theorem andV_yes {x : Int × DiskV} {f : DiskV → Int × DiskV} (h : x.1 = 0) : andV x f = f x.2 := if_neg (by simp [h])
theorem psm_and {m k : Nat} {x : Int × DiskV} {f : DiskV → Int × DiskV} (h : PSm m x.2) (hk : PSm (m + k) (f x.2).2) : PSm (m + k) (andV x f).2 := by
  unfold andV
  split
  · exact ⟨by have := h.f; omega, by have := h.n; omega, by have := h.l; omega, h.s, h.an, h.al⟩
  · exact hk
theorem PSm.by_ {m k : Nat} {D : DiskV} (h : PSm m D) (hk : m ≤ k) : PSm k D := ⟨by have := h.f; omega, by have := h.n; omega, by have := h.l; omega, h.s, h.an, h.al⟩
theorem PSm.ds {m : Nat} {D : DiskV} (h : PSm m D) (hm : m ≤ 100000) : DSmall D := ⟨by have := h.l; omega, by have := h.f; omega, by have := h.n; omega⟩
theorem psm_write {m : Nat} {D : DiskV} (n s : ByteArray) (h : PSm m D) : PSm (m + 2) (writeM D n s).2 := by
  have h1 : PSm (m + 1) (appendD D n s).2 := p_bsm_append n s h
  exact psm_and (k := 1) h1 (p_bsm_sync n h1)
theorem psm_make {m : Nat} {D : DiskV} (n s : ByteArray) (h : PSm m D) : PSm (m + 3) (createM D n s).2 := by
  have h1 : PSm (m + 1) (createD D n).2 := p_bsm_create n h
  exact psm_and (k := 2) h1 (psm_write n s h1)
theorem psm_rename {m : Nat} {D : DiskV} (a b : ByteArray) (h : PSm m D) : PSm (m + 1) (renameD D a b).2 := by
  unfold renameD
  split
  · exact h.up
  split
  · rename_i i hi
    split
    · refine p_bsm_change h ?_ true
      unfold renameA
      split
      · exact (p_bsm_trap h).up
      · exact p_bsm_rename1 _ (by simp) (p_bsm_trap h)
    · exact h.up
  · exact h.up
end Go.Proofs.YtljabmkmngbhkaaGreatDoor
