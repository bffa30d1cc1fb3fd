/-
  The cache: contracts of Shrink and Drop.
-/
import Derived.Test.YtafdgncjfiiekaaCacheR
namespace Go.Proofs.Ytafdgncjfiiekaa
open Go.RowKit
set_option linter.unusedVariables false
set_option linter.unusedSimpArgs false

theorem CacheAt.apart_rem {w : World} {c g m : Nat} {L : List Node} {B : Bud} (h : CacheAt w c g m L B) : Apart L := h.ring.apart
theorem CacheAt.tot_le {w : World} {c g m : Nat} {L : List Node} {B : Bud} (h : CacheAt w c g m L B) : B.b = total L ∧ total L ≤ B.u ∧ B.u ≤ B.l ∧ B.l ≤ 1099511627776 := by
  obtain ⟨l0, l1, a0, b0, c0, d0, u0, uh, hl⟩ := h.bud.good
  have := h.tot
  refine ⟨this, ?_, by omega, l1⟩
  omega
theorem HoldsNodes.form {w : World} {base : Nat} {v : Value} {D : List Node} (h : HoldsNodes w base v D) :
    ∃ a cap, v = .slice a D.length cap ∧ D.length ≤ 9223372036854775807 ∧ (0 < D.length → ∃ b, a = some ⟨b, 0, none⟩ ∧ base ≤ b ∧ ∀ i x, D[i]? = some x → w.cell? ⟨b, i, none⟩ = some (nptr x)) := by
  have h' := h
  rcases h.2 with ⟨rfl, hn⟩ | ⟨g, cap, cur, rfl, hg, hh, hn, hm, hsz, htake⟩
  · exact ⟨none, 0, by rw [hn], by omega, fun h => by omega⟩
  · unfold maxLen at hm
    refine ⟨_, cap, rfl, by omega, fun _ => ⟨g, rfl, hg, fun i x hx => ?_⟩⟩
    have hc := h'.cells (g := g) rfl
    have := hc i (nptr x) (by simp [hx])
    have e : (⟨g, 0, none⟩ : Addr).add i = ⟨g, i, none⟩ := by unfold Addr.add; split <;> (first | (simp; done) | (simp; omega))
    rw [e] at this
    exact this

/-- The loop that drops one node after the other: what holds when the first i of D are out. -/
structure Dropped (w0 w : World) (c g m : Nat) (L D : List Node) (B : Bud) (i : Nat) : Prop where
  at_ : CacheAt w c g m (rem L (D.take i)) (bdrop B (D.take i))
  chg : Chg (FootC c g m L) w0 w

theorem foot_sub {c g m : Nat} {L M : List Node} (h : ∀ x ∈ M, x ∈ L) {k : Nat} (hk : FootC c g m M k) : FootC c g m L k := by
  rcases hk with e | e | e | ⟨y, hy, e⟩
  · exact .inl e
  · exact .inr (.inl e)
  · exact .inr (.inr (.inl e))
  · exact .inr (.inr (.inr ⟨y, h y hy, e⟩))

/-- One more node is dropped. -/
theorem drop_next {w0 w : World} {c g m : Nat} {L D : List Node} {B : Bud} {i : Nat} (h : Dropped w0 w c g m L D B i) (hA : Apart L) (hD : D.Sublist L) (hi : i < D.length) :
    Calls Try.prog 51 #[.pointer (some ⟨c, 0, none⟩), nptr D[i]] w fun e w' => e = .returned (.tuple #[]) ∧ Dropped w0 w' c g m L D B (i + 1) ∧ Chg (FootC c g m L) w w' := by
  have hDA : Apart D := hA.sub hD
  have hx : D[i] ∈ rem L (D.take i) := mem_rem.2 ⟨hD.subset (List.getElem_mem hi), fun y hy => by
    unfold Apart at hDA
    rw [List.pairwise_iff_getElem] at hDA
    obtain ⟨j, hj, rfl⟩ := List.mem_iff_getElem.1 hy
    rw [List.length_take] at hj
    rw [List.getElem_take]
    exact hDA j i (by omega) hi (by omega)⟩
  obtain ⟨A, M, hAM⟩ := List.append_of_mem hx
  have hcur := h.at_
  have hap := hcur.ring.apart
  rw [hAM] at hcur hap
  have htake : D.take (i + 1) = D.take i ++ [D[i]] := by rw [List.take_succ_eq_append_getElem hi]
  refine (cache_drop1 c g m A M D[i] _ w hcur).mono ?_
  rintro e w' ⟨rfl, hc, hch⟩
  have hch' : Chg (FootC c g m L) w w' := hch.mono fun k _ hk => foot_sub (fun y hy => (rem_sub L (D.take i)).subset (by rw [hAM]; exact hy)) hk
  refine ⟨rfl, ⟨?_, h.chg.then hch'⟩, hch'⟩
  rw [htake, rem_snoc, hAM, rem_mid hap]
  unfold bdrop at *
  rw [List.foldl_append]
  exact hc

set_option maxRecDepth 100000 in
set_option maxHeartbeats 2000000 in
theorem cache_shrink (c g m : Nat) (L : List Node) (B : Bud) (n : Int) (w : World) (h : CacheAt w c g m L B) :
    Calls Try.prog 32 #[.pointer (some ⟨c, 0, none⟩), .int .i64 n] w fun e w' => e = .returned (.bool (shrink L B n).1) ∧ CacheAt w' c g m (shrink L B n).2.1 (shrink L B n).2.2 ∧ Chg (FootC c g m L) w w' := by
  obtain ⟨t1, t2, t3, t4⟩ := h.tot_le
  have hlen := len_of_total (L := L) (by omega)
  have hb0 := h.bud.good.b0
  have hgood : ∀ x ∈ L, x.data.size ≤ 140737488355328 := fun x hx => (h.good x hx).data
  have HF : ∀ k, FootC c g m L k → k < w.heap.size := fun k hk => h.foot_lt hk
  have c0 := h.ring.blk.cell 0
  simp [cacheCells, ptr] at c0
  have hclt := h.ring.blk.lt
  have H := Lib.hid h
  have HG := Lib.hid hgood
  have HFT := Lib.hid HF
  clear h hgood HF
  go_enter Try.func32, Try.ntmps32
  go_wp2_with fail
  have h1 : CacheAt (w.alloc (.cells #[.int .i64 n] 2)) c g m L B := H.out.same (by ((repeat (first | exact Chg.refl _ _ | assumption | refine Chg.drewN ?_ _ | refine Chg.drew ?_ | refine Chg.alloc ?_ _ | refine Chg.setCell ?_ (by simp) _))))
  have hc0' : (w.alloc (.cells #[.int .i64 n] 2)).cell? ⟨c, 0, none⟩ = some (.pointer (some ⟨g, 0, none⟩)) := by
    rw [World.cell?_alloc_lt _ _ _ hclt]; exact c0
  refine (cache_works c g _ hc0').mono ?_
  rintro e w' ⟨rfl, rfl⟩
  go_wp2_with fail
  refine (bud_left g B _ h1.bud).mono ?_
  rintro e w2 ⟨rfl, m2, hw2⟩
  have hc2 : Chg (fun _ => False) w w2 := by rw [← hw2]; ((repeat (first | exact Chg.refl _ _ | assumption | refine Chg.drewN ?_ _ | refine Chg.drew ?_ | refine Chg.alloc ?_ _ | refine Chg.setCell ?_ (by simp) _)))
  have hp2 : Blk w2 w.heap.size 2 #[.int .i64 n] := by rw [← hw2]; exact (Blk.new w _ _).drewN m2
  have hs2 : w2.heap.size = w.heap.size + 1 := by rw [← hw2]; simp
  have HS2 := Lib.hid hs2
  clear hw2 h1 hc0' c0 hs2
  go_wp2_with fail
  have hwa : CacheAt (w2.alloc (.cells #[.int .i64 (B.l - B.u)] 2)) c g m L B := (H.out.same hc2).same (by ((repeat (first | exact Chg.refl _ _ | assumption | refine Chg.drewN ?_ _ | refine Chg.drew ?_ | refine Chg.alloc ?_ _ | refine Chg.setCell ?_ (by simp) _))))
  have hca : Chg (fun _ => False) w (w2.alloc (.cells #[.int .i64 (B.l - B.u)] 2)) := hc2.alloc _
  refine (cache_all_shrink c g m L w2.heap.size w.heap.size (B.l - B.u) n _ hwa.ring HG.out hlen (Blk.new _ _ _) (hp2.alloc _) (by have := HS2.out; omega) (by omega) (by omega)).mono ?_
  rintro e w3 ⟨v, rfl, hown, hpl3, hc3⟩
  have hp3 : Blk w3 w.heap.size 2 #[.int .i64 n] := (hp2.alloc _).chg hc3 (by have := HS2.out; omega)
  have hw3 : CacheAt w3 c g m L B := hwa.chg hc3 (fun k hk e => by have := HFT.out k hk; have := HS2.out; omega)
  have hcw3 : Chg (fun _ => False) w w3 := hca.own hc3 (by have := HS2.out; omega)
  have hsub := pick_sub n (B.l - B.u) L
  have hsh : shrink L B n = if (pick n (B.l - B.u) L).2 < n then (false, L, B) else (true, rem L (pick n (B.l - B.u) L).1, bdrop B (pick n (B.l - B.u) L).1) := rfl
  have hbase : (w2.alloc (.cells #[.int .i64 (B.l - B.u)] 2)).heap.size = w.heap.size + 2 := by have := HS2.out; simp; omega
  rw [hbase] at hown
  generalize (pick n (B.l - B.u) L).1 = D at hown hsub hsh
  generalize (pick n (B.l - B.u) L).2 = lf at hpl3 hsh
  have q0 := hpl3.cell 0
  have q1 := hp3.cell 0
  simp at q0 q1
  have HSH := Lib.hid hsh
  have HW3 := Lib.hid hw3
  have HSUB := Lib.hid hsub
  clear hwa hca hc3 hc2 hp2 hbase hpl3 hp3 hsh hw3 hsub
  by_cases hlf : lf < n
  · have HLF := Lib.hid hlf
    go_wp2_with fail
    go_ret
    rw [HSH.out, if_pos HLF.out]
    exact ⟨rfl, HW3.out, hcw3.mono (by simp)⟩
  · have HLF := Lib.hid hlf
    obtain ⟨a, cap, rfl, hDl, hread⟩ := hown.form
    have HR := Lib.hid hread
    have hD0 : Dropped w3 w3 c g m L D B 0 := ⟨by simpa [rem_nil, bdrop] using HW3.out, Chg.refl _ _⟩
    clear hread hown
    go_wp2_with fail
    clear q0 q1
    go_loopw [25] (fun i wr => ∃ k : Nat, k ≤ D.length ∧ i = .int .i64 k ∧ Dropped w3 wr c g m L D B k) (fun i _ => D.length - (intOf i).toNat)
    case atStart => exact ⟨0, by omega, rfl, hD0⟩
    case round =>
      obtain ⟨k, hk, rfl, hd⟩ := hrel
      clear hD0
      by_cases hlt : k < D.length
      · obtain ⟨b, rfl, hbb, hcell⟩ := HR.out (by omega)
        have hbl : b < w3.heap.size := World.block_lt_of_cell? w3 _ (hcell k _ (List.getElem?_eq_getElem hlt))
        have y0 := (hd.chg.cell (p := ⟨b, k, none⟩) hbl (fun hf => by have := HFT.out _ hf; simp at this; omega)).trans (hcell k _ (List.getElem?_eq_getElem hlt))
        simp only [nptr] at y0
        have hk0 : (0 : Int) ≤ (k : Int) := by omega
        have hk1 : (k : Int) < (D.length : Int) := by omega
        have hdn := drop_next hd HW3.out.ring.apart HSUB.out hlt
        simp only [nptr] at hdn
        clear hcell hd
        go_wp2_with fail
        refine hdn.mono ?_
        rintro e w5 ⟨rfl, hd5, _⟩
        clear hdn y0
        go_wp2_with fail
        go_roundw
        case rel => exact ⟨k + 1, by omega, by go_num, hd5⟩
        case measure => simp [intOf]; omega
      · have hkD : k = D.length := by omega
        rw [hkD] at hd
        have hd' := hd.at_
        rw [List.take_length] at hd'
        go_wp2_with fail
        go_ret
        rw [HSH.out, if_neg (by have := HLF.out; omega)]
        exact ⟨rfl, hd', (hcw3.mono (T := FootC c g m L) (by simp)).trans hd.chg (fun _ _ h => h)⟩

set_option maxRecDepth 100000 in
set_option maxHeartbeats 2000000 in
theorem cache_drop (c g m : Nat) (L : List Node) (B : Bud) (f : Int) (w : World) (h : CacheAt w c g m L B) :
    Calls Try.prog 33 #[.pointer (some ⟨c, 0, none⟩), .int .i64 f] w fun e w' => e = .returned (.tuple #[]) ∧ CacheAt w' c g m (rem L (ofFile f L)) (bdrop B (ofFile f L)) ∧ Chg (FootC c g m L) w w' := by
  obtain ⟨t1, t2, t3, t4⟩ := h.tot_le
  have hlen := len_of_total (L := L) (by omega)
  have HF : ∀ k, FootC c g m L k → k < w.heap.size := fun k hk => h.foot_lt hk
  have c0 := h.ring.blk.cell 0
  simp [cacheCells, ptr] at c0
  have hclt := h.ring.blk.lt
  have H := Lib.hid h
  have HFT := Lib.hid HF
  clear h HF
  go_enter Try.func33, Try.ntmps33
  go_wp2_with fail
  have h1 : CacheAt (w.alloc (.cells #[.int .i64 f] 2)) c g m L B := H.out.same (by ((repeat (first | exact Chg.refl _ _ | assumption | refine Chg.drewN ?_ _ | refine Chg.drew ?_ | refine Chg.alloc ?_ _ | refine Chg.setCell ?_ (by simp) _))))
  have hc0' : (w.alloc (.cells #[.int .i64 f] 2)).cell? ⟨c, 0, none⟩ = some (.pointer (some ⟨g, 0, none⟩)) := by
    rw [World.cell?_alloc_lt _ _ _ hclt]; exact c0
  refine (cache_works c g _ hc0').mono ?_
  rintro e w' ⟨rfl, rfl⟩
  clear c0 hc0'
  go_wp2_with fail
  refine (cache_all_drop c g m L w.heap.size f _ h1.ring hlen (Blk.new _ _ _)).mono ?_
  rintro e w3 ⟨v, rfl, hown, hc3⟩
  have hw3 : CacheAt w3 c g m L B := h1.same hc3
  have hcw3 : Chg (fun _ => False) w w3 := Chg.then (by ((repeat (first | exact Chg.refl _ _ | assumption | refine Chg.drewN ?_ _ | refine Chg.drew ?_ | refine Chg.alloc ?_ _ | refine Chg.setCell ?_ (by simp) _)))) hc3
  have hsub := ofFile_sub f L
  rw [show (w.alloc (.cells #[.int .i64 f] 2)).heap.size = w.heap.size + 1 from by simp] at hown
  obtain ⟨D, hDd⟩ : ∃ D, D = ofFile f L := ⟨_, rfl⟩
  rw [← hDd] at hown hsub
  have HDD := Lib.hid hDd
  have HW3 := Lib.hid hw3
  have HSUB := Lib.hid hsub
  clear h1 hc3 hw3 hsub hDd
  obtain ⟨a, cap, rfl, hDl, hread⟩ := hown.form
  have HR := Lib.hid hread
  have hD0 : Dropped w3 w3 c g m L D B 0 := ⟨by simpa [rem_nil, bdrop] using HW3.out, Chg.refl _ _⟩
  clear hread hown
  go_wp2_with fail
  go_loopw [13] (fun i wr => ∃ k : Nat, k ≤ D.length ∧ i = .int .i64 k ∧ Dropped w3 wr c g m L D B k) (fun i _ => D.length - (intOf i).toNat)
  case atStart => exact ⟨0, by omega, rfl, hD0⟩
  case round =>
    obtain ⟨k, hk, rfl, hd⟩ := hrel
    clear hD0
    by_cases hlt : k < D.length
    · obtain ⟨b, rfl, hbb, hcell⟩ := HR.out (by omega)
      have hbl : b < w3.heap.size := World.block_lt_of_cell? w3 _ (hcell k _ (List.getElem?_eq_getElem hlt))
      have y0 := (hd.chg.cell (p := ⟨b, k, none⟩) hbl (fun hf => by have := HFT.out _ hf; simp at this; omega)).trans (hcell k _ (List.getElem?_eq_getElem hlt))
      simp only [nptr] at y0
      have hk0 : (0 : Int) ≤ (k : Int) := by omega
      have hk1 : (k : Int) < (D.length : Int) := by omega
      have hdn := drop_next hd HW3.out.ring.apart HSUB.out hlt
      simp only [nptr] at hdn
      clear hcell hd
      go_wp2_with fail
      refine hdn.mono ?_
      rintro e w5 ⟨rfl, hd5, _⟩
      clear hdn y0
      go_wp2_with fail
      go_roundw
      case rel => exact ⟨k + 1, by omega, by go_num, hd5⟩
      case measure => simp [intOf]; omega
    · have hkD : k = D.length := by omega
      rw [hkD] at hd
      have hd' := hd.at_
      rw [List.take_length] at hd'
      go_wp2_with fail
      first | go_end0 | refine bodyPost_ret (results_none rfl _ _ _) rfl ?_
      rw [HDD.out] at hd'
      exact ⟨rfl, hd', (hcw3.mono (T := FootC c g m L) (by simp)).trans hd.chg (fun _ _ h => h)⟩
end Go.Proofs.Ytafdgncjfiiekaa
