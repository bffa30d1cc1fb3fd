/-
  Lemmas for the walks of the program's Apply.
-/
import Derived.Test.YtahahginmgidjaaVerE
import Derived.Deep.DeepCutAuto
import Derived.Deep.CutBlock
import Derived.Deep.RegionLaw
namespace Go.Proofs.Ytahahginmgidjaa
open Go.RowKit
set_option linter.unusedVariables false
set_option linter.unusedSimpArgs false

theorem nodup_count {l : List Int} (h : l.Nodup) (x : Int) : l.count x = if x ∈ l then 1 else 0 := List.Nodup.count h
theorem sorted_files_mem {f : Nat → List MetaV} (x : Int) : x ∈ ((filesOf (flatF f)).mergeSort fun x y => decide (x ≤ y)) ↔ x ∈ filesOf (flatF f) := (merge_perm _).mem_iff
theorem flatF_mem {f : Nat → List MetaV} {i : Nat} (hi : i < 4) {m : MetaV} (hm : m ∈ f i) : m.file ∈ filesOf (flatF f) := List.mem_map.2 ⟨_, mem_flatF.2 ⟨i, hi, m, hm, rfl⟩, rfl⟩
theorem flatF_le {f : Nat → List MetaV} {n : Nat} (h : ∀ i, i < 4 → (f i).length ≤ n) : (filesOf (flatF f)).length ≤ 4 * n := by
  have h0 := h 0 (by omega); have h1 := h 1 (by omega); have h2 := h 2 (by omega); have h3 := h 3 (by omega)
  simp only [filesOf, flatF, atLevel, List.length_map, List.length_append]
  omega
/-- The levels under way: kept tables, level by level. -/
def keptUp (d : List Int) (f : Nat → List MetaV) (k : Nat) (A : List MetaV) : Nat → List MetaV := fun j => if j < k then kept d (f j) else if j = k then kept d A else []
theorem keptUp_next (d : List Int) (f : Nat → List MetaV) (k : Nat) : keptUp d f k (f k) = keptUp d f (k + 1) [] := by
  funext j
  unfold keptUp
  by_cases h1 : j < k
  · rw [if_pos h1, if_pos (by omega)]
  · by_cases h2 : j = k
    · subst h2; rw [if_neg (by omega), if_pos rfl, if_pos (by omega)]
    · rw [if_neg h1, if_neg h2, if_neg (by omega)]
      split <;> simp [kept]
theorem keptUp_push (d : List Int) (f : Nat → List MetaV) (k : Nat) (A : List MetaV) (x : MetaV) (hx : x.file ∉ d) : setLv (keptUp d f k A) k (keptUp d f k A k ++ [x]) = keptUp d f k (A ++ [x]) := by
  funext j
  unfold setLv keptUp
  by_cases h2 : j = k
  · subst h2
    simp [kept, hx]
  · simp [h2]
theorem keptUp_skip (d : List Int) (f : Nat → List MetaV) (k : Nat) (A : List MetaV) (x : MetaV) (hx : x.file ∈ d) : keptUp d f k (A ++ [x]) = keptUp d f k A := by
  funext j
  unfold keptUp
  by_cases h2 : j = k
  · subst h2; simp [kept, hx]
  · simp [h2]
theorem keptUp_at (d : List Int) (f : Nat → List MetaV) (k : Nat) (A : List MetaV) : keptUp d f k A k = kept d A := by simp [keptUp]
/-- .. and added ones. -/
def addUp (d : List Int) (f : Nat → List MetaV) (A : List PlaceV) : Nat → List MetaV := fun j => keptUp d f 4 [] j ++ added j A
theorem addUp_push (d : List Int) (f : Nat → List MetaV) (A : List PlaceV) (l : Nat) (m : MetaV) : setLv (addUp d f A) l (addUp d f A l ++ [m]) = addUp d f (A ++ [⟨(l : Int), m⟩]) := by
  funext j
  unfold setLv addUp
  have e : added j (A ++ [⟨(l : Int), m⟩]) = added j A ++ (if j = l then [m] else []) := by
    unfold added
    by_cases h : j = l
    · subst h; simp
    · have : ¬ ((l : Int) = (j : Int)) := by omega
      simp [h, this]
  rw [e]
  by_cases h : j = l
  · subst h; simp
  · simp [h]
theorem addUp_perm (S : VerV) (E : EditV) {i : Nat} (hi : i < 4) : ((nextV S E).lv i).Perm (addUp E.drop S.lv E.add i) := by
  have := next_perm S E i
  unfold addUp keptUp
  rw [if_pos hi]
  exact this
theorem addUp_ends {S : VerV} {E : EditV} (h : Good S) (hn : okNums S E) (ha : okAdds (filesOf (flat S)) E.next E.add) {i : Nat} (hi : i < 4) : ∀ m ∈ addUp E.drop S.lv E.add i, sl m.hi m.lo = false := fun m hm => by
  unfold addUp keptUp at hm
  rw [if_pos hi] at hm
  rcases List.mem_append.1 hm with hm | hm
  · exact (h.ends i hi m ((kept_sub _ _).subset hm)).1
  · obtain ⟨p, hp, rfl⟩ := List.mem_map.1 hm
    exact (ha.1 p (List.mem_filter.1 hp).1).1.2.2.2.2.2
theorem addUp_nil (d : List Int) (f : Nat → List MetaV) : addUp d f [] = keptUp d f 4 [] := by
  funext j; simp [addUp, added]
theorem addUp_len (d : List Int) (f : Nat → List MetaV) (T : List PlaceV) (i : Nat) (h : (f i).length ≤ 50000000) (hT : T.length ≤ 50000000) : (addUp d f T i).length ≤ 100000000 := by
  unfold addUp keptUp
  rw [List.length_append]
  have h1 : (added i T).length ≤ T.length := by
    unfold added
    rw [List.length_map]
    exact List.length_filter_le _ _
  have h2 : (kept d (f i)).length ≤ (f i).length := List.length_filter_le _ _
  split
  · omega
  · split <;> simp [kept] <;> omega
theorem OutAt.chgS {w w' : World} {g base : Nat} {L : Nat → Value} {f : Nat → List MetaV} {log next seq : Int} {S : Nat → Prop} (h : OutAt w g base L f log next seq) (hc : Chg S w w') (hG : ¬ S g) (hL : ∀ i, i < 4 → ∀ b, (L i).ownBlock = some b → ¬ S b) : OutAt w' g base L f log next seq :=
  ⟨h.blk.chg hc hG, fun i hi => (h.at_ i hi).chg hc fun k hk => hL i hi k hk, h.far, h.new⟩
/-- A table was appended to a level and stored back: all that is kept. -/
theorem push_all {w8 w11 w4 : World} {g base m i : Nat} {L : Nat → Value} {f f' : Nat → List MetaV} {log next seq : Int} {c : Int → Nat} {K : List MetaV} {x : MetaV} {v0 v' : Value} (h : OutAt w11 g base L f log next seq) (hi : i < 4) (hbase : base ≤ w11.heap.size) (hK : f i = K) (hLo : L i = v0)
    (hO : Lst metaC w4 v' (K ++ [x])) (hc : Chg (fun k => v0.ownBlock = some k) w11 w4) (hk : ∀ k, v'.ownBlock = some k → v0.ownBlock = some k ∨ w11.heap.size ≤ k) (hf : setLv f i (K ++ [x]) = f') (hcm : CntAt w11 m c) (hm : m < base) (hmg : m < g) (h8 : Chg (fun k => k = m) w8 w11) (hb8 : w8.heap.size ≤ base) (hg8 : w8.heap.size ≤ g) :
    ∃ L', OutAt (w4.setCell ⟨g, i, none⟩ v') g base L' f' log next seq ∧ CntAt (w4.setCell ⟨g, i, none⟩ v') m c ∧ Chg (fun k => k = m) w8 (w4.setCell ⟨g, i, none⟩ v') := by
  subst hK hLo hf
  obtain ⟨h1, h2⟩ := h.push hi hbase hO hc hk
  refine ⟨_, h1, hcm.chg h2 ?_, h8.trans h2 fun k hk' e => ?_⟩
  · rintro (e | e)
    · omega
    · have := h.new i hi m e; omega
  · rcases e with e | e
    · omega
    · have := h.new i hi k e; omega
/-- What sort's answer says. -/
theorem sort_says {S : VerV} {E : EditV} (h : Good S) (hn : okNums S E) (ha : okAdds (filesOf (flat S)) E.next E.add) {i : Nat} (h1 : 1 ≤ i) (hi : i < 4) {l : List MetaV} (hp : l.Perm (addUp E.drop S.lv E.add i)) (hs : Sorted (before i) l) : AdjOk l ↔ ((nextV S E).lv i).Pairwise Apart :=
  level_asked (by omega) (hp.trans (addUp_perm S E hi).symm) hs fun x hx => addUp_ends h hn ha hi x (hp.mem_iff.1 hx)
theorem sort_gives {S : VerV} {E : EditV} (h : Good S) (ho : okV S E) {F : Nat → List MetaV} (hF : ∀ i, i < 4 → (F i).Perm (addUp E.drop S.lv E.add i) ∧ Sorted (before i) (F i)) {i : Nat} (hi : i < 4) : F i = (nextV S E).lv i := by
  obtain ⟨hp, hs⟩ := hF i hi
  have hp' := hp.trans (addUp_perm S E hi).symm
  by_cases h0 : i = 0
  · subst h0
    exact level_first hp' hs (next_sorted h E (by omega)) (level_nodup (next_nodup h ho))
  · exact level_rest h0 hp' hs (next_sorted h E hi) (fun x hx => addUp_ends h ho.1 ho.2.2.1 hi x (hp.mem_iff.1 hx)) (ho.2.2.2 i (by omega) hi)
end Go.Proofs.Ytahahginmgidjaa
