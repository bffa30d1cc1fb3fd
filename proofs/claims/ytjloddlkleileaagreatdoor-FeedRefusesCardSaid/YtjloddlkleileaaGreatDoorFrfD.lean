/-
  A configuration of the law's: some numbers, some coins; what they are is of no matter here.
-/
import Derived.Test.YtjloddlkleileaaGreatDoorFrfC
namespace Go.Proofs.YtjloddlkleileaaGreatDoor
open Go.RowKit
set_option linter.unusedVariables false
set_option linter.unusedSimpArgs false

/-- A slice of ints that came in. -/
def CInts (w : World) (v : Value) (l : List Int) : Prop := ∃ a cap, v = .slice a l.length cap ∧ l.length ≤ cap ∧ l.length ≤ 9223372036854775807 ∧
  (0 < l.length → ∃ b off, a = some ⟨b, off, none⟩ ∧ ∀ i x, l[i]? = some x → w.cell? ⟨b, off + i, none⟩ = some (.int .i64 x))
theorem CInts.same {w w' : World} {v : Value} {l : List Int} (h : CInts w v l) (hc : Chg (fun _ => False) w w') : CInts w' v l := by
  obtain ⟨a, cap, e, h1, h2, h3⟩ := h
  refine ⟨a, cap, e, h1, h2, fun hp => ?_⟩
  obtain ⟨b, off, e, h⟩ := h3 hp
  exact ⟨b, off, e, fun i x hx => (hc.cell (World.block_lt_of_cell? w _ (h i x hx)) (by simp)).trans (h i x hx)⟩
theorem cfg_at (n m : Int) (h0 : -9223372036854775808 ≤ n) (h1 : n ≤ 9223372036854775807) (hm : 0 < m) (hm1 : m ≤ 9223372036854775807) : ∃ r, 0 ≤ r ∧ r < m ∧ ∀ w, Calls Tryz.prog 20 #[.int .i64 n, .int .i64 m] w fun e w' => e = .returned (.int .i64 r) ∧ Chg (fun _ => False) w w' := by
  by_cases hn : n < 0
  · refine ⟨(-(n + 1)) % m, Int.emod_nonneg _ (by omega), Int.emod_lt_of_pos _ hm, fun w => ?_⟩
    have q : decide (n < 0) = true := decide_eq_true hn
    have e1 : IntKind.i64.wrap (n + 1) = n + 1 := IntWalk.i64_in _ (by omega)
    have e2 : IntKind.i64.wrap (-(n + 1)) = -(n + 1) := IntWalk.i64_in _ (by omega)
    have e3 : (-(n + 1)).tmod m = (-(n + 1)) % m := Int.tmod_eq_emod_of_nonneg (by omega)
    have e4 : IntKind.i64.wrap ((-(n + 1)) % m) = (-(n + 1)) % m := IntWalk.i64_in _ (by have := Int.emod_nonneg (-(n + 1)) (show m ≠ 0 by omega); have := Int.emod_lt_of_pos (-(n + 1)) hm; omega)
    have hz : (m == 0) = false := by rw [beq_eq_false_iff_ne]; omega
    have HM := Lib.hid hm
    have hm0 : m ≠ 0 := by omega
    go_enter Tryz.func20, Tryz.ntmps20
    go_wp2_with fail
    go_ret
    simp only [e1, e2, e3, e4]
    exact ⟨rfl, Chg.refl _ _⟩
  · refine ⟨n % m, Int.emod_nonneg _ (by omega), Int.emod_lt_of_pos _ hm, fun w => ?_⟩
    have q : decide (n < 0) = false := decide_eq_false hn
    have e3 : n.tmod m = n % m := Int.tmod_eq_emod_of_nonneg (by omega)
    have e4 : IntKind.i64.wrap (n % m) = n % m := IntWalk.i64_in _ (by have := Int.emod_nonneg n (show m ≠ 0 by omega); have := Int.emod_lt_of_pos n hm; omega)
    have hz : (m == 0) = false := by rw [beq_eq_false_iff_ne]; omega
    have hm0 : m ≠ 0 := by omega
    go_enter Tryz.func20, Tryz.ntmps20
    go_wp2_with fail
    go_ret
    simp only [e3, e4]
    exact ⟨rfl, Chg.refl _ _⟩
section
variable {a : Act} {Q : Exit → Act → World → Prop} {K : Act → World → Prop} {ops : Array Oper} {o : Oper} {rest : List Oper} {E : Prop}
/-- append([]int(nil), l[:k]...), at a step of a region that draws. -/
theorem step_ints (W : World) (hgd : o.guard = none) (s x : Operand) (ho : o.op = .call { callee := .builtin .append, args := #[s, x], argTypes := #[23, 23] }) (L : List Int) (ad : Option Addr) (cap k : Nat) (hs : a.eval s = .slice none 0 0) (hx : a.eval x = .slice ad k cap) (hv : CInts W (.slice ad L.length cap) L) (hk : k ≤ L.length) (hk2 : k ≤ 50)
    (h : ∀ av vn vc w', Chg (fun _ => False) W w' → K (a.put o.dst (.slice av vn vc)) w') :
    if Region.wanted o (yielded ops a.tmps) = true then Oper.wp Tryz.prog o a W K Q else E := by
  obtain ⟨i0, hi, hz0, hz1, hz2⟩ := info_parts (show (Tryz.prog.info? 3).map (fun i => (i.zero, i.size, i.bytes)) = some (some (.int .i64 0), 1, 8) by kernel_rfl)
  obtain ⟨a', cap', e, h1, h2, h3⟩ := hv
  injection e with e _ _
  subst e
  have fin : ∀ v' w' (xs : List Value) (n : Nat), Own w' 3 1 v' n xs → W.grownBy w' (Value.slice none 0 0).ownBlock → K (a.put o.dst v') w' := fun v' w' xs n hown hg => by
    have hc : Chg (fun _ => False) W w' := (chg_grown hg).mono fun k _ e => by simp [Value.ownBlock] at e
    obtain ⟨va, vc, rfl, _, _, _⟩ := hown.reads
    exact h _ _ _ _ hc
  have hsrc : ∃ news : List Value, Src Tryz.prog 1 23 (.slice ad k cap) k news W := by
    by_cases hz : k = 0
    · subst hz
      cases ad with
      | none => exact ⟨[], Src.ofNil _ Tryz.underlying23 _⟩
      | some ad => exact ⟨[], Src.ofSlice _ Tryz.underlying23 ad 0 cap _ rfl (fun j u hu => by simp at hu) (by simp)⟩
    · obtain ⟨b, off, rfl, hc⟩ := h3 (by omega)
      refine ⟨(L.take k).map (fun n => .int .i64 n), Src.ofSlice _ Tryz.underlying23 ⟨b, off, none⟩ k cap _ (by simp; omega) (fun j u hu => ?_) (fun u hu => ?_)⟩
      · rw [List.getElem?_map] at hu
        obtain ⟨x, hx, rfl⟩ := Option.map_eq_some_iff.1 hu
        rw [Addr.add_lit]
        have hj : j < k := by
          have := (List.getElem?_eq_some_iff.1 hx).1
          simp at this; omega
        rw [List.getElem?_take_of_lt hj] at hx
        exact hc j x hx
      · obtain ⟨x, _, rfl⟩ := List.mem_map.1 hu
        rfl
  obtain ⟨news, hsrc⟩ := hsrc
  exact step_own_append W hgd s x _ _ ho 3 i0 (.int .i64 0) 1 8 Tryz.underlying23 hi hz0 hz1 hz2 rfl (.slice none 0 0) 0 [] hs (Own.nil _ _ _) (.slice ad k cap) k news hx hsrc (by unfold maxLen; omega) (by omega) fun v' w' hown hg _ => fin v' w' _ _ hown hg
end
end Go.Proofs.YtjloddlkleileaaGreatDoor
