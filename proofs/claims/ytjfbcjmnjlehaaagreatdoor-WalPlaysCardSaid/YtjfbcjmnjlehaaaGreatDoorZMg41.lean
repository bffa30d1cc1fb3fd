/-
  The names of a disk's map, as the shelf's contracts on maps.Keys and slices.Sorted want them.
  The disk: List.
-/
import Derived.Test.YtjfbcjmnjlehaaaGreatDoorZMg15
import Derived.Sort.KeysCollected
import Derived.Test.YtjfbcjmnjlehaaaGreatDoorIter
namespace Go.Proofs.YtjfbcjmnjlehaaaGreatDoor
open Go.RowKit Go.Maps Go.Sort Go.WideElems Go.WideShapes
set_option linter.unusedVariables false
set_option linter.unusedSimpArgs false

theorem nmap_owns {w : World} {b : Nat} {ids : List Nat} {l : Names} (h : NMap w b ids l) (hl : l.length ≤ maxLen) (ho : l.Pairwise fun a b => a.1 ≠ b.1) :
    ∃ D0 : DataW Unit, w.ownsMap Tryz.prog 9 (fun _ => some (.nil, [])) b l.length D0 ∧ Maps.size D0 = l.length ∧ (strKeys D0).Perm (l.map fun p => p.1.data.toList) := by
  obtain ⟨n, f, ⟨es, clock, hb, hsz, S⟩, ht, hn⟩ := h
  have F : Fit (H := Unit) Tryz.prog 9 (fun _ => some (.nil, [])) es clock := ⟨by omega, ⟨S.born, List.pairwise_map.2 S.ages, List.pairwise_map.2 S.apart⟩, fun x hx => by
    obtain ⟨k, hk⟩ := S.keys x hx
    exact ⟨_, rd_mk hk rfl⟩⟩
  refine ⟨_, ⟨es, clock, hb, F, by omega, rfl⟩, ?_, ?_⟩
  · show (((es.toList.map (rg Tryz.prog 9 (fun _ => some (.nil, [])))).foldr DataW.insert []).length) = _
    rw [(sorted_perm _).length_eq]
    simp; omega
  · obtain ⟨G, hG⟩ : ∃ G : MapEntry → List UInt8, G = (fun p => strOf p.1) ∘ rg (H := Unit) Tryz.prog 9 (fun _ => some (.nil, [])) := ⟨_, rfl⟩
    have hg : ∀ x ∈ es.toList, x.key = encStr (G x) := fun x hx => by
      obtain ⟨k, hk⟩ := S.keys x hx
      obtain ⟨s, hs, rfl, _⟩ := Maps.keyOf_str Tryz.underlying9 hk
      rw [hG, Function.comp, rg_of (rd_mk hk rfl)]
      exact hs
    refine ((sorted_perm _).map fun p => strOf p.1).trans ?_
    rw [List.map_map, ← hG]
    clear hG F
    refine (List.perm_ext_iff_of_nodup ?_ ?_).2 fun s => ?_
    · refine List.pairwise_map.2 (S.apart.imp_of_mem fun {a b} ha hb' hne e => hne ?_)
      rw [hg a ha, hg b hb', e]
    · refine List.pairwise_map.2 (ho.imp fun {a b} hne e => hne ?_)
      have := congrArg List.toArray e
      simp at this
      exact ByteArray.ext this
    · have hs := S.says (encStr s)
      constructor
      · intro h
        obtain ⟨x, hx, hxs⟩ := List.mem_map.1 h
        have hk := hg x hx
        rw [hxs] at hk
        obtain ⟨q, hq, hqk, _⟩ := (ht _ _).1 ((hs x.val).2 ⟨x, hx, hk, rfl⟩)
        refine List.mem_map.2 ⟨q, hq, ?_⟩
        simp only [encStr, Value.string.injEq] at hqk
        rw [← hqk]
      · intro h
        obtain ⟨q, hq, hqs⟩ := List.mem_map.1 h
        have hf := (ht (.string q.1) (fptr ids q.2)).2 ⟨q, hq, rfl, rfl⟩
        obtain ⟨x, hx, hxk, _⟩ := (S.says _ _).1 hf
        refine List.mem_map.2 ⟨x, hx, ?_⟩
        have hk := hg x hx
        rw [hxk] at hk
        simp only [encStr, Value.string.injEq] at hk
        rw [← hqs, hk]
end Go.Proofs.YtjfbcjmnjlehaaaGreatDoor
namespace Go.Proofs.YtjfbcjmnjlehaaaGreatDoor
open Go.RowKit Go.Maps Go.Sort
set_option linter.unusedVariables false
set_option linter.unusedSimpArgs false

def listD (D : DiskV) : List (List UInt8) := (D.names.map fun p => p.1.data.toList).mergeSort leB
set_option maxRecDepth 100000 in
set_option maxHeartbeats 2000000 in
theorem disk_list (d : Nat) (ids : List Nat) (D : DiskV) (M : Nat → Prop) (hn : D.names.length ≤ 1000000) (w : World) (h : DiskAt w d ids D M) :
    Calls Tryz.prog 66 #[.pointer (some ⟨d, 0, none⟩)] w fun e w' => ∃ v, e = .returned v ∧ w'.ownsRow w.heap.size 9 1 v (listD D).length ((listD D).map encStr) ∧ Chg (fun _ => False) w w' := by
  obtain ⟨hok, y, h⟩ := h
  have c2 := h.blk.cell 2
  simp at c2
  obtain ⟨D0, hown, hsize, hperm⟩ := nmap_owns h.names (by unfold maxLen; omega) hok.names.one
  have hk := callsIn_wide.1 (Tryz.maps_Keys_115 (some y.nm) w)
  have hs := callsIn_wide.1 (Tryz.slices_Sorted_keys_114_115 y.nm _ D0 _ w hown (by rw [hsize]; unfold maxLen; omega) (by rw [hsize]; omega))
  have hlist : ∀ ss : List (List UInt8), ss.Perm (strKeys D0) → ss.mergeSort (fun x y => decide (x ≤ y)) = listD D := fun ss hp => mergeSort_of_perm (hp.trans hperm)
  have HK := Lib.hid hk
  have HS := Lib.hid hs
  have HL := Lib.hid hlist
  clear hk hs hlist hown hsize hperm h hok
  go_enter Tryz.func66, Tryz.ntmps66
  go_wp2_with fail
  refine HK.out.mono ?_
  rintro e w1 ⟨rfl, rfl⟩
  go_wp2_with fail
  refine HS.out.mono ?_
  rintro e w2 ⟨v, ss, rfl, hp, hrow, hnil, hb⟩
  have hll := HL.out ss hp
  go_wp2_with fail
  go_ret
  have hlen : ss.length = (listD D).length := by rw [← hll, List.length_mergeSort]
  rw [hll, hlen] at hrow
  refine ⟨v, rfl, ?_, ?_⟩
  · obtain ⟨h1, h2⟩ := hrow
    refine ⟨h1, ?_⟩
    rcases h2 with h2 | ⟨g, cap, cur, a, b, c⟩
    · exact .inl h2
    · simp at b
      exact .inr ⟨g, cap, cur, a, by omega, c⟩
  · have hc0 : Chg (fun _ => False) w (w.alloc (.cells #[.map (some y.nm)] 61)) := by ((repeat (first | exact Chg.refl _ _ | assumption | refine Chg.drewN ?_ _ | refine Chg.drew ?_ | refine Chg.alloc ?_ _ | refine Chg.setCell ?_ (by first | (simp; done) | (simp; omega) | (intro h; simp at h; omega)) _)))
    exact hc0.then ⟨hb.os, hb.tape, hb.output, hb.size, fun k hk _ => hb.block k hk⟩
end Go.Proofs.YtjfbcjmnjlehaaaGreatDoor
