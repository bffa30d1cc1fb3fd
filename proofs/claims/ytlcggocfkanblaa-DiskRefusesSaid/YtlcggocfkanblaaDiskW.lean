/-
  The names of a disk's map, as the shelf's contracts on maps.Keys and slices.Sorted want them.
-/
import Derived.Test.YtlcggocfkanblaaDiskS
import Derived.Sort.KeysCollected
namespace Go.Proofs.Ytlcggocfkanblaa
open Go.RowKit Go.Maps Go.Sort Go.WideElems Go.WideShapes
set_option linter.unusedVariables false
set_option linter.unusedSimpArgs false

theorem nmap_owns {w : World} {b : Nat} {ids : List Nat} {l : Names} (h : NMap w b ids l) (hl : l.length ≤ maxLen) (ho : l.Pairwise fun a b => a.1 ≠ b.1) :
    ∃ D0 : DataW Unit, w.ownsMap Try.prog 9 (fun _ => some (.nil, [])) b l.length D0 ∧ Maps.size D0 = l.length ∧ (strKeys D0).Perm (l.map fun p => p.1.data.toList) := by
  obtain ⟨n, f, ⟨es, clock, hb, hsz, S⟩, ht, hn⟩ := h
  have F : Fit (H := Unit) Try.prog 9 (fun _ => some (.nil, [])) es clock := ⟨by omega, ⟨S.born, List.pairwise_map.2 S.ages, List.pairwise_map.2 S.apart⟩, fun x hx => by
    obtain ⟨k, hk⟩ := S.keys x hx
    exact ⟨_, rd_mk hk rfl⟩⟩
  refine ⟨_, ⟨es, clock, hb, F, by omega, rfl⟩, ?_, ?_⟩
  · show (((es.toList.map (rg Try.prog 9 (fun _ => some (.nil, [])))).foldr DataW.insert []).length) = _
    rw [(sorted_perm _).length_eq]
    simp; omega
  · obtain ⟨G, hG⟩ : ∃ G : MapEntry → List UInt8, G = (fun p => strOf p.1) ∘ rg (H := Unit) Try.prog 9 (fun _ => some (.nil, [])) := ⟨_, rfl⟩
    have hg : ∀ x ∈ es.toList, x.key = encStr (G x) := fun x hx => by
      obtain ⟨k, hk⟩ := S.keys x hx
      obtain ⟨s, hs, rfl, _⟩ := Maps.keyOf_str Try.underlying9 hk
      rw [hG, Function.comp, rg_of (rd_mk hk rfl)]
      exact hs
    refine ((sorted_perm _).map fun p => strOf p.1).trans ?_
    rw [List.map_map, ← hG]
    clear hG F
    refine (List.perm_ext_iff_of_nodup ?_ ?_).2 fun s => ?_
    · refine List.pairwise_map.2 (S.apart.imp_of_mem fun {a b} ha hb' hne e => hne ?_)
      rw [hg a ha, hg b hb', e]
    · refine List.pairwise_map.2 (ho.imp fun {a b} hne e => hne ?_)
      have := congrArg List.toArray e
      simp at this
      exact ByteArray.ext this
    · have hs := S.says (encStr s)
      constructor
      · intro h
        obtain ⟨x, hx, hxs⟩ := List.mem_map.1 h
        have hk := hg x hx
        rw [hxs] at hk
        obtain ⟨q, hq, hqk, _⟩ := (ht _ _).1 ((hs x.val).2 ⟨x, hx, hk, rfl⟩)
        refine List.mem_map.2 ⟨q, hq, ?_⟩
        simp only [encStr, Value.string.injEq] at hqk
        rw [← hqk]
      · intro h
        obtain ⟨q, hq, hqs⟩ := List.mem_map.1 h
        have hf := (ht (.string q.1) (fptr ids q.2)).2 ⟨q, hq, rfl, rfl⟩
        obtain ⟨x, hx, hxk, _⟩ := (S.says _ _).1 hf
        refine List.mem_map.2 ⟨x, hx, ?_⟩
        have hk := hg x hx
        rw [hxk] at hk
        simp only [encStr, Value.string.injEq] at hk
        rw [← hqs, hk]
end Go.Proofs.Ytlcggocfkanblaa
