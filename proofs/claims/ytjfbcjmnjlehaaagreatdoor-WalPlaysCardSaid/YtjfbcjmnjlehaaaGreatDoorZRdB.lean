/-
  The document's disk: rest, Find, with, all.
-/
import Derived.Test.YtjfbcjmnjlehaaaGreatDoorZMg24
import Derived.Sort.Walk0
import Derived.BigQuiet
namespace Go.Proofs.YtjfbcjmnjlehaaaGreatDoor
open Go.RowKit
set_option linter.unusedVariables false
set_option linter.unusedSimpArgs false

theorem rd_rest (n b : Int) (hb : 0 < b) (hb2 : b ≤ 9223372036854775807) (hn1 : -9223372036854775808 ≤ n) (hn2 : n ≤ 9223372036854775807) (w : World) : Calls Tryz.prog 109 #[.int .i64 n, .int .i64 b] w fun e w' => e = .returned (.int .i64 (restI n b)) ∧ w = w' := by
  unfold restI
  by_cases h : n < 0
  · rw [if_pos h]
    go_enter Tryz.func109, Tryz.ntmps109
    go_wp2
    go_ret
    refine ⟨?_, rfl⟩
    rw [Int.neg_tmod]
    rfl
  · rw [if_neg h, Int.tmod_eq_emod_of_nonneg (by omega)]
    go_enter Tryz.func109, Tryz.ntmps109
    go_wp2
    go_ret
    exact ⟨rfl, rfl⟩
theorem str_eqb (a b : ByteArray) : (a.toList == b.toList) = decide (a = b) := by
  by_cases h : a = b
  · subst h; simp
  · rw [str_ne h]; simp [h]
theorem rnm_form {w : World} {v : Value} {l : RNms} (h : RNm w v l) : ∃ a cap, v = .slice a l.length cap ∧ l.length ≤ cap ∧ l.length ≤ 9223372036854775807 ∧ ∀ A p B, l = A ++ p :: B → ∃ b, a = some ⟨b, 0, none⟩ ∧ b < w.heap.size ∧ v.ownBlock = some b ∧
    w.cell? ⟨b, A.length * 2, none⟩ = some (.string p.1) ∧ w.cell? ⟨b, A.length * 2 + 1, none⟩ = some (.int .i64 p.2) := by
  obtain ⟨a, cap, rfl, h1, h2, h3⟩ := Own.reads h
  refine ⟨a, cap, rfl, h1, h2, fun A p B hl => ?_⟩
  obtain ⟨b, rfl, hb, ho, hc⟩ := h3 (by rw [hl]; simp; omega)
  obtain ⟨z0, z1⟩ := nmCells_at A B p
  rw [← hl] at z0 z1
  exact ⟨b, rfl, hb, ho, hc _ _ z0, hc _ _ z1⟩

set_option maxRecDepth 100000 in
set_option maxHeartbeats 2000000 in
theorem rd_find (l : RNms) (n : ByteArray) (v : Value) (w : World) (h : RNm w v l) :
    Calls Tryz.prog 96 #[v, .string n] w fun e w' => e = .returned (.int .i64 (findN l n)) ∧ ∃ m, w.drewN m = w' := by
  obtain ⟨a, cap, rfl, hcap, hn, hread⟩ := rnm_form h
  have HR := Lib.hid hread
  clear hread h
  go_enter Tryz.func96, Tryz.ntmps96
  go_wp2_with fail
  go_loopw [5] (fun i wr => ∃ A R, l = A ++ R ∧ i = .int .i64 A.length ∧ findN R n = findN l n ∧ ∃ m, w.drewN m = wr) (fun i _ => l.length - (intOf i).toNat)
  case atStart => exact ⟨[], l, rfl, rfl, rfl, 0, rfl⟩
  case round =>
    obtain ⟨A, R, hL, rfl, hf, m, rfl⟩ := hrel
    cases R with
    | nil =>
      have hge : ¬ ((A.length : Int) < (l.length : Int)) := by rw [hL]; simp
      have hf2 : findN l n = -1 := by rw [← hf]; rfl
      have HF2 := Lib.hid hf2
      clear hL hf hf2
      go_wp2_with fail
      go_ret
      exact ⟨by rw [HF2.out]; rfl, m, rfl⟩
    | cons p B =>
      obtain ⟨b, rfl, hb, _, z0, z1⟩ := HR.out A p B hL
      have hlt : (A.length : Int) < (l.length : Int) := by rw [hL]; simp; omega
      have hge : (0 : Int) ≤ (A.length : Int) := by omega
      have z0' : (w.drewN m).cell? ⟨b, A.length * 2, none⟩ = some (.string p.1) := z0
      have z1' : (w.drewN m).cell? ⟨b, A.length * 2 + 1, none⟩ = some (.int .i64 p.2) := z1
      have hL2 : l = (A ++ [p]) ++ B := by rw [hL]; simp
      have hle : A.length ≤ l.length := by omega
      have HL := Lib.hid hL2
      have he := str_eqb p.1 n
      by_cases hp : p.1 = n
      · have hf2 : findN l n = p.2 := by rw [← hf]; simp [findN, hp]
        have HF2 := Lib.hid hf2
        rw [decide_eq_true hp] at he
        clear hL hf hf2 hL2 z0 z1
        go_wp2_with fail
        go_ret
        exact ⟨by rw [HF2.out]; rfl, m, rfl⟩
      · have hf2 : findN B n = findN l n := by rw [← hf]; simp [findN, hp]
        have HF := Lib.hid hf2
        rw [decide_eq_false hp] at he
        clear hL hf hf2 hL2 z0 z1
        go_wp2_with fail
        go_roundw
        case rel => exact ⟨A ++ [p], B, HL.out, by simp, HF.out, m, rfl⟩
        case measure => simp [intOf]; omega
theorem info_rname : (Tryz.prog.info? 104).map (fun i => (i.zero, i.size, i.bytes)) = some (some (.agg #[.string ⟨#[]⟩, .int .i64 0]), 2, 24) := by kernel_rfl
/-- A list of names of the call's own is returned. -/
def RNmPost (w : World) (l : RNms) (e : Ending) (w' : World) : Prop :=
  ∃ v, e = .returned v ∧ RNm w' v l ∧ (∀ k, v.ownBlock = some k → w.heap.size ≤ k) ∧ Chg (fun _ => False) w w'
theorem str_lt (a b : ByteArray) : Op.bytesLess a.toList b.toList = slt a b := by
  unfold slt
  rw [bytesLess_eq, ByteArray.toList_eq, ByteArray.toList_eq]

section
variable {a : Act} {Q : Exit → Act → World → Prop} {ops : Array Oper} {o : Oper} {rest : List Oper}
/-- append(l, c), c in a new slice of one. -/
theorem wpList_rnm_append (W : World) (hgd : o.guard = none) (s x : Operand) (ho : o.op = .call { callee := .builtin .append, args := #[s, x], argTypes := #[69, 69] }) (L : RNms) (v : Value) (p : ByteArray × Int) (hs : a.eval s = v) (hv : RNm W v L)
    (hx : a.eval x = .slice (some ⟨W.heap.size, 0, none⟩) 1 1) (hL : L.length ≤ 2000000000) (Wa : World) (hWa : Wa = W.alloc (.cells #[.string p.1, .int .i64 p.2] 104))
    (h : ∀ v' w', RNm w' v' (L ++ [p]) → Chg (fun k => v.ownBlock = some k) W w' → (∀ k, v'.ownBlock = some k → v.ownBlock = some k ∨ W.heap.size ≤ k) → wpList Tryz.prog ops Q rest (a.put o.dst v') w') :
    wpList Tryz.prog ops Q (o :: rest) a Wa := by
  subst hWa
  obtain ⟨i0, hi, hz0, hz1, hz2⟩ := info_parts info_rname
  refine wpList_own_append _ hgd s x _ _ ho 104 i0 (.agg #[.string ⟨#[]⟩, .int .i64 0]) 2 24 Tryz.underlying69 hi hz0 hz1 hz2 rfl v L.length (nmCells L) hs (Own.same hv (by ((repeat (first | exact Chg.refl _ _ | assumption | refine Chg.drewN ?_ _ | refine Chg.drew ?_ | refine Chg.alloc ?_ _ | refine Chg.setCell ?_ (by first | (simp; done) | (simp; omega) | (intro h; simp at h; omega)) _))))) _ 1 [.string p.1, .int .i64 p.2] hx
    (Src.ofSlice _ Tryz.underlying69 ⟨W.heap.size, 0, none⟩ 1 1 _ rfl (World.news_of_block (cs := #[.string p.1, .int .i64 p.2]) (t := 104) (fr := (0, 0)) (heap_alloc_new W _)) (by simp [Value.oneCell'])) (by unfold maxLen; omega) (by omega) ?_
  intro v' w' hown hg hb
  refine h v' w' ?_ (((Chg.refl _ _).alloc _).grown' hg) fun k hk => ?_
  · unfold RNm
    rw [nmCells_snoc, List.length_append, List.length_singleton]
    exact hown
  · rcases hb with e | e
    · exact .inl (by rw [← e]; exact hk)
    · rw [e] at hk; injection hk with hk; simp at hk; right; omega
end

set_option maxRecDepth 100000 in
set_option maxHeartbeats 4000000 in
theorem rd_with (l : RNms) (c : ByteArray × Int) (v : Value) (hlen : l.length ≤ 1000000000) (w : World) (h : RNm w v l) :
    Calls Tryz.prog 137 #[v, .agg #[.string c.1, .int .i64 c.2]] w (RNmPost w (withR l c)) := by
  obtain ⟨a, cap, rfl, hcap, hn, hread⟩ := rnm_form h
  obtain ⟨w1, hw1⟩ : ∃ w1, w1 = w.alloc (.cells #[.string c.1, .int .i64 c.2] 104) := ⟨_, rfl⟩
  have hc1 : Chg (fun _ => False) w w1 := by rw [hw1]; ((repeat (first | exact Chg.refl _ _ | assumption | refine Chg.drewN ?_ _ | refine Chg.drew ?_ | refine Chg.alloc ?_ _ | refine Chg.setCell ?_ (by first | (simp; done) | (simp; omega) | (intro h; simp at h; omega)) _)))
  have hb1 : Blk w1 w.heap.size 104 #[.string c.1, .int .i64 c.2] := by rw [hw1]; exact Blk.new w _ _
  have hsz1 : w1.heap.size = w.heap.size + 1 := by rw [hw1]; simp
  have HR := Lib.hid hread
  have HW1 := Lib.hid hw1
  have HB1 := Lib.hid hb1
  have HC1 := Lib.hid hc1
  clear hread h hw1 hb1 hc1
  have hwr : withR l c = wgo c (decide (c.2 < 0)) l := rfl
  have HWR := Lib.hid hwr
  clear hwr
  go_enter Tryz.func137, Tryz.ntmps137
  go_wp2_with fail
  rw [← HW1.out]
  go_loopw [5, 6, 7] (fun out put i wr => ∃ A R L p, l = A ++ R ∧ i = .int .i64 A.length ∧ put = .bool p ∧ RNm wr out L ∧ L ++ wgo c p R = withR l c ∧ L.length ≤ A.length + 1 ∧ (p = false → L.length ≤ A.length) ∧ (∀ k, out.ownBlock = some k → w1.heap.size ≤ k) ∧ Chg (fun _ => False) w1 wr) (fun _ _ i _ => l.length - (intOf i).toNat)
  case atStart => exact ⟨[], l, [], decide (c.2 < 0), rfl, rfl, rfl, Own.nil _ _ _, HWR.out.symm, by simp, by simp, by simp [Value.ownBlock], Chg.refl _ _⟩
  case round =>
    obtain ⟨A, R, L, p, hL, rfl, rfl, hO, hgo, hll, hlf, hk, hc⟩ := hrel
    obtain ⟨oa, oc, rfl, hoc, hon, _⟩ := rnm_form hO
    have hcs := hc.size
    have b1 := HB1.out.chg hc (by simp)
    have y0 := b1.cell 0
    have y1 := b1.cell 1
    simp at y0 y1
    have HO := Lib.hid hO
    have HG := Lib.hid hgo
    have HK := Lib.hid hk
    have HC := Lib.hid hc
    have hAl : A.length ≤ l.length := by rw [hL]; simp
    clear hO hgo hk hc b1
    cases R with
    | nil =>
      have hge : ¬ ((A.length : Int) < (l.length : Int)) := by rw [hL]; simp
      cases p with
      | true =>
        have HL := Lib.hid hL
        clear hL
        go_wp2_with fail
        go_ret
        refine ⟨_, rfl, ?_, fun k hk => by have := HK.out k hk; omega, HC1.out.then HC.out⟩
        have := HG.out
        simp only [wgo, if_true, List.append_nil] at this
        rw [← this]; exact HO.out
      | false =>
        have HL := Lib.hid hL
        clear hL
        go_wp2_with (at_builtin; refine wpList_rnm_append wr (by rfl) _ _ (by rfl) L _ c (by rfl) HO.out (by rfl) (by omega) _ rfl ?_)
        intro v' w' hO' hcg hb
        have HO' := Lib.hid hO'
        have HB' := Lib.hid hb
        have hfin : Chg (fun _ => False) w w' := HC1.out.then (HC.out.trans hcg (fun k hk e => by have := HK.out k e; omega))
        have HF := Lib.hid hfin
        clear hO' hcg hb hfin
        go_wp2_with fail
        go_ret
        refine ⟨_, rfl, ?_, fun k hk => ?_, HF.out⟩
        · have := HG.out
          simp only [wgo, Bool.false_eq_true, if_false] at this
          rw [← this]; exact HO'.out
        · rcases HB'.out k hk with e | e
          · have := HK.out k e; omega
          · omega
    | cons q B =>
      obtain ⟨b, rfl, hb, _, z0, z1⟩ := HR.out A q B hL
      have hlt : (A.length : Int) < (l.length : Int) := by rw [hL]; simp; omega
      have hge : (0 : Int) ≤ (A.length : Int) := by omega
      have z0' := ((HC1.out.then HC.out).cell (p := ⟨b, A.length * 2, none⟩) hb (by simp)).trans z0
      have z1' := ((HC1.out.then HC.out).cell (p := ⟨b, A.length * 2 + 1, none⟩) hb (by simp)).trans z1
      have hL2 : l = (A ++ [q]) ++ B := by rw [hL]; simp
      have HL := Lib.hid hL2
      have he := str_eqb q.1 c.1
      by_cases hp : q.1 = c.1
      · rw [decide_eq_true hp] at he
        clear hL hL2 z0 z1
        go_wp2_with fail
        go_region
        all_goals
          go_wp2_with fail
          go_roundw
          case rel =>
            refine ⟨A ++ [q], B, L, p, HL.out, by simp, rfl, ?_, ?_, by simp; omega, fun e => by have := hlf e; simp; omega, HK.out, HC.out.drewN _⟩
            · exact RNm.same HO.out (by ((repeat (first | exact Chg.refl _ _ | assumption | refine Chg.drewN ?_ _ | refine Chg.drew ?_ | refine Chg.alloc ?_ _ | refine Chg.setCell ?_ (by first | (simp; done) | (simp; omega) | (intro h; simp at h; omega)) _))))
            · have := HG.out
              rw [wgo, if_pos hp] at this
              exact this
          case measure => simp [intOf]; omega
      · rw [decide_eq_false hp] at he
        have hG1 : L ++ (if !p && slt c.1 q.1 then c :: q :: wgo c true B else q :: wgo c p B) = withR l c := by
          have := HG.out
          rw [wgo, if_neg hp] at this
          exact this
        have HG1 := Lib.hid hG1
        have HZ0 := Lib.hid z0
        have HZ1 := Lib.hid z1
        have hlen2 : L.length ≤ 1000000001 := by omega
        clear HG hG1 hL hL2 z0 z1
        cases p with
        | true =>
          go_wp2_with fail
          go_quiet (fail)
          go_wp2_with fail
          go_quiet (fail)
          obtain ⟨L6, hL6⟩ : ∃ L6, L6 = L ++ [q] := ⟨_, rfl⟩
          have hln6 : L6.length ≤ L.length + 1 := by rw [hL6]; simp
          go_wp2_with (at_builtin; refine wpList_rnm_append _ (by rfl) _ _ (by rfl) L (.slice oa L.length oc) q (by rfl) (by exact RNm.same HO.out (by ((repeat (first | exact Chg.refl _ _ | assumption | refine Chg.drewN ?_ _ | refine Chg.drew ?_ | refine Chg.alloc ?_ _ | refine Chg.setCell ?_ (by first | (simp; done) | (simp; omega) | (intro h; simp at h; omega)) _))))) (by rfl) (by omega) _ rfl ?_)
          intro v6 w6 hO6 hcg6 hb6
          rw [← hL6] at hO6
          obtain ⟨oa6, oc6, rfl, _, hon6, _⟩ := rnm_form hO6
          have HO6 := Lib.hid hO6
          have HL6 := Lib.hid hL6
          have hcf6 : Chg (fun _ => False) w1 w6 := Chg.trans (by have := HC.out; ((repeat (first | exact Chg.refl _ _ | assumption | refine Chg.drewN ?_ _ | refine Chg.drew ?_ | refine Chg.alloc ?_ _ | refine Chg.setCell ?_ (by first | (simp; done) | (simp; omega) | (intro h; simp at h; omega)) _)))) hcg6 (fun k hk e => by have := HK.out k e; omega)
          have HC6 := Lib.hid hcf6
          have HK6 : Hid (∀ k, (Value.slice oa6 L6.length oc6).ownBlock = some k → w1.heap.size ≤ k) := Lib.hid fun k hk => by
            have := HC.out.size
            rcases hb6 k hk with e | e
            · exact HK.out k e
            · first | omega | (have e' : wr.heap.size ≤ k := e; omega) | (have e' : w5.heap.size ≤ k := e; omega)
          clear hO6 hcg6 hb6 hcf6 hL6
          go_wp2_with fail
          go_roundw
          case rel =>
            refine ⟨A ++ [q], B, L6, true, HL.out, by simp, rfl, HO6.out, ?_, by simp; omega, by first | simp; done | (intro _; simp; omega), HK6.out, HC6.out⟩
            have := HG1.out
            rw [HL6.out]
            simpa using this
          case measure => simp [intOf]; omega
        | false =>
          have hlt2 := str_lt c.1 q.1
          have hlf' := hlf rfl
          by_cases hs : slt c.1 q.1 = true
          · rw [hs] at hlt2
            go_wp2_with fail
            go_quiet (fail)
            go_wp2_with fail
            go_quiet (fail)
            obtain ⟨L5, hL5⟩ : ∃ L5, L5 = L ++ [c] := ⟨_, rfl⟩
            have hln5 : L5.length ≤ L.length + 1 := by rw [hL5]; simp
            go_wp2_with (at_builtin; refine wpList_rnm_append _ (by rfl) _ _ (by rfl) L (.slice oa L.length oc) c (by rfl) (by exact RNm.same HO.out (by ((repeat (first | exact Chg.refl _ _ | assumption | refine Chg.drewN ?_ _ | refine Chg.drew ?_ | refine Chg.alloc ?_ _ | refine Chg.setCell ?_ (by first | (simp; done) | (simp; omega) | (intro h; simp at h; omega)) _))))) (by rfl) (by omega) _ rfl ?_)
            intro v5 w5 hO5 hcg5 hb5
            rw [← hL5] at hO5
            obtain ⟨oa5, oc5, rfl, _, hon5, _⟩ := rnm_form hO5
            have HO5 := Lib.hid hO5
            have HL5 := Lib.hid hL5
            have hcf5 : Chg (fun _ => False) w1 w5 := Chg.trans (by have := HC.out; ((repeat (first | exact Chg.refl _ _ | assumption | refine Chg.drewN ?_ _ | refine Chg.drew ?_ | refine Chg.alloc ?_ _ | refine Chg.setCell ?_ (by first | (simp; done) | (simp; omega) | (intro h; simp at h; omega)) _)))) hcg5 (fun k hk e => by have := HK.out k e; omega)
            have HC5 := Lib.hid hcf5
            have HK5 : Hid (∀ k, (Value.slice oa5 L5.length oc5).ownBlock = some k → w1.heap.size ≤ k) := Lib.hid fun k hk => by
              have := HC.out.size
              rcases hb5 k hk with e | e
              · exact HK.out k e
              · first | omega | (have e' : wr.heap.size ≤ k := e; omega) | (have e' : w5.heap.size ≤ k := e; omega)
            clear hO5 hcg5 hb5 hcf5 hL5
            have z2' := (((HC1.out.then HC5.out)).cell (p := ⟨b, A.length * 2, none⟩) hb (by simp)).trans HZ0.out
            have z3' := (((HC1.out.then HC5.out)).cell (p := ⟨b, A.length * 2 + 1, none⟩) hb (by simp)).trans HZ1.out
            clear HC HO HK
            obtain ⟨L7, hL7⟩ : ∃ L7, L7 = L5 ++ [q] := ⟨_, rfl⟩
            have hln7 : L7.length ≤ L5.length + 1 := by rw [hL7]; simp
            go_wp2_with (at_builtin; refine wpList_rnm_append _ (by rfl) _ _ (by rfl) L5 (.slice oa5 L5.length oc5) q (by rfl) (by exact RNm.same HO5.out (by ((repeat (first | exact Chg.refl _ _ | assumption | refine Chg.drewN ?_ _ | refine Chg.drew ?_ | refine Chg.alloc ?_ _ | refine Chg.setCell ?_ (by first | (simp; done) | (simp; omega) | (intro h; simp at h; omega)) _))))) (by rfl) (by omega) _ rfl ?_)
            intro v7 w7 hO7 hcg7 hb7
            rw [← hL7] at hO7
            obtain ⟨oa7, oc7, rfl, _, hon7, _⟩ := rnm_form hO7
            have HO7 := Lib.hid hO7
            have HL7 := Lib.hid hL7
            have hcf7 : Chg (fun _ => False) w1 w7 := Chg.trans (by have := HC5.out; ((repeat (first | exact Chg.refl _ _ | assumption | refine Chg.drewN ?_ _ | refine Chg.drew ?_ | refine Chg.alloc ?_ _ | refine Chg.setCell ?_ (by first | (simp; done) | (simp; omega) | (intro h; simp at h; omega)) _)))) hcg7 (fun k hk e => by have := HK5.out k e; omega)
            have HC7 := Lib.hid hcf7
            have HK7 : Hid (∀ k, (Value.slice oa7 L7.length oc7).ownBlock = some k → w1.heap.size ≤ k) := Lib.hid fun k hk => by
              have := HC5.out.size
              rcases hb7 k hk with e | e
              · exact HK5.out k e
              · first | omega | (have e' : wr.heap.size ≤ k := e; omega) | (have e' : w5.heap.size ≤ k := e; omega)
            clear hO7 hcg7 hb7 hcf7 hL7
            go_wp2_with fail
            go_roundw
            case rel =>
              refine ⟨A ++ [q], B, L7, true, HL.out, by simp, rfl, HO7.out, ?_, by simp; omega, by first | simp; done | (intro _; simp; omega), HK7.out, HC7.out⟩
              have := HG1.out
              rw [hs] at this; rw [HL7.out, HL5.out]
              simpa using this
            case measure => simp [intOf]; omega
          · rw [Bool.not_eq_true] at hs
            rw [hs] at hlt2
            go_wp2_with fail
            go_quiet (fail)
            go_wp2_with fail
            go_quiet (fail)
            obtain ⟨L6, hL6⟩ : ∃ L6, L6 = L ++ [q] := ⟨_, rfl⟩
            have hln6 : L6.length ≤ L.length + 1 := by rw [hL6]; simp
            go_wp2_with (at_builtin; refine wpList_rnm_append _ (by rfl) _ _ (by rfl) L (.slice oa L.length oc) q (by rfl) (by exact RNm.same HO.out (by ((repeat (first | exact Chg.refl _ _ | assumption | refine Chg.drewN ?_ _ | refine Chg.drew ?_ | refine Chg.alloc ?_ _ | refine Chg.setCell ?_ (by first | (simp; done) | (simp; omega) | (intro h; simp at h; omega)) _))))) (by rfl) (by omega) _ rfl ?_)
            intro v6 w6 hO6 hcg6 hb6
            rw [← hL6] at hO6
            obtain ⟨oa6, oc6, rfl, _, hon6, _⟩ := rnm_form hO6
            have HO6 := Lib.hid hO6
            have HL6 := Lib.hid hL6
            have hcf6 : Chg (fun _ => False) w1 w6 := Chg.trans (by have := HC.out; ((repeat (first | exact Chg.refl _ _ | assumption | refine Chg.drewN ?_ _ | refine Chg.drew ?_ | refine Chg.alloc ?_ _ | refine Chg.setCell ?_ (by first | (simp; done) | (simp; omega) | (intro h; simp at h; omega)) _)))) hcg6 (fun k hk e => by have := HK.out k e; omega)
            have HC6 := Lib.hid hcf6
            have HK6 : Hid (∀ k, (Value.slice oa6 L6.length oc6).ownBlock = some k → w1.heap.size ≤ k) := Lib.hid fun k hk => by
              have := HC.out.size
              rcases hb6 k hk with e | e
              · exact HK.out k e
              · first | omega | (have e' : wr.heap.size ≤ k := e; omega) | (have e' : w5.heap.size ≤ k := e; omega)
            clear hO6 hcg6 hb6 hcf6 hL6
            go_wp2_with fail
            go_roundw
            case rel =>
              refine ⟨A ++ [q], B, L6, false, HL.out, by simp, rfl, HO6.out, ?_, by simp; omega, by first | simp; done | (intro _; simp; omega), HK6.out, HC6.out⟩
              have := HG1.out
              rw [hs] at this; rw [HL6.out]
              simpa using this
            case measure => simp [intOf]; omega
end Go.Proofs.YtjfbcjmnjlehaaaGreatDoor
