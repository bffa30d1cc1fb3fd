/-
  Words for the program's Apply: maps that count files; a version under way whose levels grow.
-/
import Derived.Test.YtahahginmgidjaaVerC
import Derived.Test.YtahahginmgidjaaMap
namespace Go.Proofs.Ytahahginmgidjaa
open Go.RowKit
set_option linter.unusedVariables false
set_option linter.unusedSimpArgs false

def I64 (x : Int) : Prop := -9223372036854775808 ≤ x ∧ x ≤ 9223372036854775807
theorem ikey_law : Go.Maps.Keyed Try.prog 2 := Go.Maps.int_keyed Try.underlying2
theorem ikey_of {x : Int} (h : I64 x) : ∃ l, keyOf Try.prog 2 (.int .i64 x) = some l := by
  have h1 : decide (1 ≤ Try.prog.types.size) = true := by kernel_rfl
  obtain ⟨n, hn⟩ := Nat.exists_eq_add_of_le (of_decide_eq_true h1)
  unfold keyOf
  rw [Try.underlying2]
  refine ⟨.int .i64 x, ?_⟩
  obtain ⟨h2, h3⟩ := h
  have hw : (Lit.int .i64 x).wf = true := by
    simp [Lit.wf, IntKind.min, IntKind.max, IntKind.signed, IntKind.bits]; omega
  simp [mapKey, Try.underlying2, hw]
theorem zero_int (w : World) : (zeroValue 3).run Try.prog w = .ok (.int .i64 0) w := by kernel_rfl
/-- A map that counts. -/
def cntF (c : Int → Nat) : Value → Option Value := fun v => match v with | .int .i64 x => if c x = 0 then none else some (.int .i64 (c x : Int)) | _ => none
def CntAt (w : World) (b : Nat) (c : Int → Nat) : Prop := ∃ n, MapAt Try.prog 2 w b n (cntF c)
def bump (c : Int → Nat) (x : Int) : Int → Nat := fun y => if y = x then c y + 1 else c y
theorem cntF_bump (c : Int → Nat) (x : Int) : upd (cntF c) (.int .i64 x) (some (.int .i64 ((c x : Int) + 1))) = cntF (bump c x) := by
  funext v
  by_cases h : v = .int .i64 x
  · subst h
    rw [upd_same]
    simp [cntF, bump]
  · rw [upd_other _ _ h]
    cases v with
    | int k y =>
      cases k with
      | i64 =>
        have : y ≠ x := fun e => h (by rw [e])
        simp [cntF, bump, this]
      | _ => rfl
    | _ => rfl
theorem cntF_getD (c : Int → Nat) (x : Int) : ((cntF c) (.int .i64 x)).getD (.int .i64 0) = .int .i64 (c x : Int) := by
  unfold cntF
  by_cases h : c x = 0
  · simp [h]
  · simp [h]
section
variable {w w' : World} {b : Nat} {c : Int → Nat} {x : Int}
theorem CntAt.new (w : World) : CntAt (w.alloc (.map #[] 0)) w.heap.size fun _ => 0 := by
  refine ⟨0, ?_⟩
  have : cntF (fun _ => 0) = fun _ => none := by
    funext v; cases v with
    | int k y => cases k <;> simp [cntF]
    | _ => rfl
  rw [this]
  exact MapAt.new _ _ w
theorem CntAt.chg {S : Nat → Prop} (h : CntAt w b c) (hc : Chg S w w') (hS : ¬ S b) : CntAt w' b c := h.imp fun n hn => hn.chg hc hS
theorem CntAt.same (h : CntAt w b c) (hc : Chg (fun _ => False) w w') : CntAt w' b c := h.chg hc (by simp)
theorem CntAt.lt (h : CntAt w b c) : b < w.heap.size := by obtain ⟨n, hn⟩ := h; exact hn.lt
theorem CntAt.look (h : CntAt w b c) (hx : I64 x) : (Instr.lookup 91 (.map (some b)) (.int .i64 x) false).run Try.prog w = .ok (.int .i64 (c x : Int)) w := by
  obtain ⟨n, hn⟩ := h
  obtain ⟨l, hl⟩ := ikey_of hx
  have := hn.look ikey_law Try.underlying91 (zero_int w) hl false
  rw [cntF_getD] at this
  exact this
theorem CntAt.bump (h : CntAt w b c) (hx : I64 x) : ∃ w', (Instr.mapUpdate 91 (.map (some b)) (.int .i64 x) (.int .i64 ((c x : Int) + 1))).run Try.prog w = .ok () w' ∧ CntAt w' b (bump c x) ∧ Chg (fun k => k = b) w w' ∧ w'.heap.size = w.heap.size := by
  obtain ⟨n, hn⟩ := h
  obtain ⟨l, hl⟩ := ikey_of hx
  obtain ⟨w', h1, h2, h3, h4⟩ := hn.store ikey_law Try.underlying91 hl (.int .i64 ((c x : Int) + 1))
  rw [cntF_bump] at h2
  exact ⟨w', h1, ⟨_, h2⟩, h3, h4⟩
theorem CntAt.ne_ {g : Nat} {t : TypeId} {cs : Array Value} (h : CntAt w b c) (h' : Blk w g t cs) : b ≠ g := by
  obtain ⟨n, hn⟩ := h
  exact fun e => h'.ne_map hn e.symm
end
theorem bump_count (l : List Int) (x : Int) : bump (fun y => l.count y) x = fun y => (l ++ [x]).count y := by
  funext y
  unfold bump
  rw [List.count_append]
  by_cases h : y = x
  · subst h; simp
  · have : ¬ x = y := fun e => h e.symm
    simp [h, List.count_singleton, this]
theorem count_zero (l : List Int) (x : Int) : l.count x = 0 ↔ x ∉ l := List.count_eq_zero

/-! ### A version under way -/
def setL (L : Nat → Value) (i : Nat) (v : Value) : Nat → Value := fun j => if j = i then v else L j
structure OutAt (w : World) (g base : Nat) (L : Nat → Value) (f : Nat → List MetaV) (log next seq : Int) : Prop where
  blk : Blk w g 68 #[L 0, L 1, L 2, L 3, .int .i64 log, .int .i64 next, .int .i64 seq]
  at_ : VerAt w L f
  far : Far L
  new : ∀ i, i < 4 → ∀ b, (L i).ownBlock = some b → base ≤ b
section
variable {w w' w4 : World} {g base : Nat} {L : Nat → Value} {f : Nat → List MetaV} {log next seq : Int}
theorem OutAt.same (h : OutAt w g base L f log next seq) (hc : Chg (fun _ => False) w w') : OutAt w' g base L f log next seq :=
  ⟨h.blk.chg hc (by simp), h.at_.same hc, h.far, h.new⟩
theorem OutAt.cell (h : OutAt w g base L f log next seq) {i : Nat} (hi : i < 4) : w.cell? ⟨g, i, none⟩ = some (L i) := by
  have := h.blk.cell i
  match i, hi with
  | 0, _ => simpa using this
  | 1, _ => simpa using this
  | 2, _ => simpa using this
  | 3, _ => simpa using this
theorem OutAt.ne_ (h : OutAt w g base L f log next seq) {i : Nat} (hi : i < 4) : (L i).ownBlock ≠ some g := fun e => by
  obtain ⟨cs, hb⟩ := (h.at_ i hi).typed e
  exact hb.ne_ h.blk (by decide) rfl
theorem OutAt.made (w : World) (log next seq : Int) (f : Nat → List MetaV) (hf : ∀ i, i < 4 → f i = []) (base : Nat) {w1 : World} (hb : Blk w1 w.heap.size 68 #[.slice none 0 0, .slice none 0 0, .slice none 0 0, .slice none 0 0, .int .i64 log, .int .i64 next, .int .i64 seq]) : OutAt w1 w.heap.size base (fun _ => .slice none 0 0) f log next seq :=
  ⟨hb, fun i hi => by rw [hf i hi]; exact Lst.nil _ _, fun i j k _ _ _ h => by simp [Value.ownBlock] at h, fun i _ b h => by simp [Value.ownBlock] at h⟩
/-- A table was appended to a level. -/
theorem OutAt.push (h : OutAt w g base L f log next seq) {i : Nat} (hi : i < 4) {x : MetaV} {v' : Value} (hbase : base ≤ w.heap.size) (hO : Lst metaC w4 v' (f i ++ [x])) (hc : Chg (fun k => (L i).ownBlock = some k) w w4) (hk : ∀ k, v'.ownBlock = some k → (L i).ownBlock = some k ∨ w.heap.size ≤ k) :
    OutAt (w4.setCell ⟨g, i, none⟩ v') g base (setL L i v') (setLv f i (f i ++ [x])) log next seq ∧ Chg (fun k => k = g ∨ (L i).ownBlock = some k) w (w4.setCell ⟨g, i, none⟩ v') := by
  have hne := h.ne_ hi
  have hb4 := h.blk.chg hc hne
  have hset : Chg (fun k => k = g) w4 (w4.setCell ⟨g, i, none⟩ v') := Chg.setCell (S := fun k => k = g) (Chg.refl _ w4) (p := ⟨g, i, none⟩) (fun _ => rfl) v'
  have hne' : v'.ownBlock ≠ some g := fun e => by
    obtain ⟨cs, hb⟩ := hO.typed e
    exact hb.ne_ hb4 (by decide) rfl
  refine ⟨⟨?_, fun j hj => ?_, fun a b k ha hb hab h1 h2 => ?_, fun j hj b hb => ?_⟩, ?_⟩
  · have := hb4.set_ i v'
    match i, hi with
    | 0, _ => simpa [setL] using this
    | 1, _ => simpa [setL] using this
    | 2, _ => simpa [setL] using this
    | 3, _ => simpa [setL] using this
  · unfold setL setLv
    by_cases e : j = i
    · subst e
      rw [if_pos rfl, if_pos rfl]
      exact hO.chg hset fun k hk' e => hne' (by rw [← e]; exact hk')
    · rw [if_neg e, if_neg e]
      exact ((h.at_ j hj).chg hc fun k hk' e' => h.far j i k hj hi e hk' e').chg hset fun k hk' e' => h.ne_ hj (by rw [← e']; exact hk')
  · have lt : ∀ c, c < 4 → ∀ k, (L c).ownBlock = some k → k < w.heap.size := fun c hc' k hk' => (h.at_ c hc').lt hk'
    unfold setL at h1 h2
    by_cases ea : a = i
    · have eb : b ≠ i := fun e => hab (by rw [ea, e])
      rw [if_pos ea] at h1
      rw [if_neg eb] at h2
      rcases hk k h1 with e | e
      · exact h.far i b k hi hb (fun e => eb e.symm) e h2
      · have := lt b hb k h2; omega
    · rw [if_neg ea] at h1
      by_cases eb : b = i
      · rw [if_pos eb] at h2
        rcases hk k h2 with e | e
        · exact h.far a i k ha hi ea h1 e
        · have := lt a ha k h1; omega
      · rw [if_neg eb] at h2
        exact h.far a b k ha hb hab h1 h2
  · unfold setL at hb
    by_cases e : j = i
    · rw [if_pos e] at hb
      rcases hk b hb with e' | e'
      · exact h.new i hi b e'
      · omega
    · rw [if_neg e] at hb
      exact h.new j hj b hb
  · exact (hc.mono fun k _ hk' => .inr hk').trans hset fun k _ e => .inl e
end
/-- What the program's Apply answers. -/
def VApplyPost (w : World) (S : VerV) (E : EditV) (e : Ending) (w' : World) : Prop :=
  Chg (fun _ => False) w w' ∧
  ((okV S E ∧ ∃ L : Nat → Value, e = .returned (.tuple #[.agg #[L 0, L 1, L 2, L 3, .int .i64 E.log, .int .i64 E.next, .int .i64 E.seq], .int .i64 0]) ∧ VerAt w' L (nextV S E).lv ∧ ∀ i, i < 4 → ∀ b, (L i).ownBlock = some b → w.heap.size ≤ b) ∨
   (¬ okV S E ∧ e = .returned (.tuple #[.agg #[.slice none 0 0, .slice none 0 0, .slice none 0 0, .slice none 0 0, .int .i64 0, .int .i64 0, .int .i64 0], .int .i64 17])))
/-- Bounds of the numbers in an edit: those of the type. -/
structure EdOk (E : EditV) : Prop where
  drop : ∀ x ∈ E.drop, I64 x
  add : ∀ p ∈ E.add, I64 p.m.file
end Go.Proofs.Ytahahginmgidjaa
