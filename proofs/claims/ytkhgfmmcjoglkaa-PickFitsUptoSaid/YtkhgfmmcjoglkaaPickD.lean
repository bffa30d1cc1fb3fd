/-
  What is merged next: the program's Pick.
-/
import Derived.Test.YtkhgfmmcjoglkaaPickC
import Derived.Deep.LoopGhost
import Derived.Outline
namespace Go.Proofs.Ytkhgfmmcjoglkaa
open Go.RowKit
set_option linter.unusedVariables false
set_option linter.unusedSimpArgs false

theorem kd_chg {w w' : World} {p : Addr} {v : Value} (hc : Chg (fun _ => False) w w') (h : w.cell? p = some v) : w'.cell? p = some v := (hc.cell (World.block_lt_of_cell? w p h) (by simp)).trans h
section
variable {a : Act} {Q : Exit → Act → World → Prop} {K : Act → World → Prop} {ops : Array Oper} {o : Oper} {rest : List Oper} {E : Prop}
/-- append(from[:n:n], to...), outside a region that draws. -/
theorem wpList_both (W : World) (hgd : o.guard = none) (s x : Operand) (ho : o.op = .call { callee := .builtin .append, args := #[s, x], argTypes := #[26, 26] }) (l m : List MetaV) (v u : Value) (b : Option Addr) (cap : Nat) (e : v = .slice b l.length cap) (hs : a.eval s = .slice b l.length l.length) (hx : a.eval x = u)
    (hv : RM W v l) (hu : RM W u m) (hl : l.length ≤ 500000000) (hm : m.length ≤ 500000000) (hne : l ≠ [])
    (h : ∀ v' w', RM w' v' (l ++ m) → Chg (fun _ => False) W w' → wpList Try.prog ops Q rest (a.put o.dst v') w') :
    wpList Try.prog ops Q (o :: rest) a W :=
  wpList_plain hgd fun _ hK => by
    obtain ⟨v', w', hr, h2, h3⟩ := run_both l m v u W o.type hv hu hl hm b cap e hne
    unfold Oper.wp execOp
    simp only [ho, resolve, invoke, builtin, Sem.run_bind, Sem.run_pure, Result.andThen_ok, List.map_toArray, List.map_cons, List.map_nil, hs, hx, hr]
    exact hK _ _ (h v' w' h2 h3)
end
/-- One table out of the midst. -/
theorem RM.one {w : World} {v : Value} {l : List MetaV} (h : RM w v l) {A B : List MetaV} {x : MetaV} (e : l = A ++ x :: B) : ∃ b off cap, v = .slice (some ⟨b, off, none⟩) l.length cap ∧ l.length ≤ cap ∧ cap ≤ 9223372036854775807 ∧ RM w (.slice (some ⟨b, off + A.length * 4, none⟩) 1 (cap - A.length)) [x] := by
  obtain ⟨a, cap, rfl, h1, h2, h3⟩ := h
  obtain ⟨b, off, rfl, hb, z0, z1, z2, z3⟩ := h3 A x B e
  have hlen : A.length < l.length := by rw [e]; simp
  refine ⟨b, off, cap, rfl, h1, h2, _, _, rfl, by simp; omega, by omega, fun X y R hl => ?_⟩
  cases X with
  | nil =>
    simp at hl
    obtain ⟨rfl, _⟩ := hl
    exact ⟨b, off + A.length * 4, rfl, hb, by simpa using z0, by simpa using z1, by simpa using z2, by simpa using z3⟩
  | cons q X => simp at hl
theorem RM.far {w w' : World} {v : Value} {l : List MetaV} {g : Nat} {k : Int} {a1 a2 : Option Addr} {n1 c1 n2 c2 : Nat} {bt : Bool} (h : RM w v l) (hb : Blk w g 37 #[.int .i64 k, .slice a1 n1 c1, .slice a2 n2 c2, .bool bt]) (hc : Chg (fun i => i = g) w w') : RM w' v l := by
  obtain ⟨a, cap, e, h1, h2, h3⟩ := h
  refine ⟨a, cap, e, h1, h2, fun A x B hl => ?_⟩
  obtain ⟨b, off, e', hlt, z0, z1, z2, z3⟩ := h3 A x B hl
  have hne : ¬ b = g := fun e => by
    subst e
    have := hb.cell (off + A.length * 4 + 2)
    rw [z2] at this
    generalize off + A.length * 4 + 2 = i at this
    match i with
    | 0 => simp at this
    | 1 => simp at this
    | 2 => simp at this
    | 3 => simp at this
    | i + 4 => simp at this
  exact ⟨b, off, e', Nat.lt_of_lt_of_le hlt hc.size, (hc.cell (p := ⟨b, _, none⟩) hlt hne).trans z0, (hc.cell (p := ⟨b, _, none⟩) hlt hne).trans z1, (hc.cell (p := ⟨b, _, none⟩) hlt hne).trans z2, (hc.cell (p := ⟨b, _, none⟩) hlt hne).trans z3⟩
theorem job_put {w W : World} {g : Nat} {a b c d a' b' c' d' : Value} {v u : Value} {l m : List Int} (hz : Blk w g 37 #[a, b, c, d]) (hF : Lst i64C w v l) (hU : Lst i64C w u m) (hW : Chg (fun _ => False) W w) (hg : W.heap.size ≤ g) :
    Blk ((((w.setCell ⟨g, 0, none⟩ a').setCell ⟨g, 1, none⟩ b').setCell ⟨g, 2, none⟩ c').setCell ⟨g, 3, none⟩ d') g 37 #[a', b', c', d'] ∧ Lst i64C ((((w.setCell ⟨g, 0, none⟩ a').setCell ⟨g, 1, none⟩ b').setCell ⟨g, 2, none⟩ c').setCell ⟨g, 3, none⟩ d') v l ∧ Lst i64C ((((w.setCell ⟨g, 0, none⟩ a').setCell ⟨g, 1, none⟩ b').setCell ⟨g, 2, none⟩ c').setCell ⟨g, 3, none⟩ d') u m ∧ Chg (fun _ => False) W ((((w.setCell ⟨g, 0, none⟩ a').setCell ⟨g, 1, none⟩ b').setCell ⟨g, 2, none⟩ c').setCell ⟨g, 3, none⟩ d') := by
  have hc : Chg (fun j => j = g) w ((((w.setCell ⟨g, 0, none⟩ a').setCell ⟨g, 1, none⟩ b').setCell ⟨g, 2, none⟩ c').setCell ⟨g, 3, none⟩ d') := by ((repeat (first | with_reducible exact Chg.refl _ _ | with_reducible assumption | with_reducible refine Chg.drewN ?_ _ | with_reducible refine Chg.drew ?_ | with_reducible refine Chg.alloc ?_ _ | with_reducible refine Chg.setCell ?_ (by first | (simp; done) | (simp; omega) | (intro h; simp at h; omega)) _)))
  refine ⟨?_, hF.chg hc fun k hk e => ?_, hU.chg hc fun k hk e => ?_, hW.own hc hg⟩
  · have h9 := (((hz.set_ 0 a').set_ 1 b').set_ 2 c').set_ 3 d'
    simp at h9
    exact h9
  · subst e
    obtain ⟨cs, hb⟩ := hF.typed hk
    exact hb.ne_ hz (by decide) rfl
  · subst e
    obtain ⟨cs, hb⟩ := hU.typed hk
    exact hb.ne_ hz (by decide) rfl
def PickPost (w : World) (S : VerV) (z : Int) (e : Ending) (w' : World) : Prop :=
  Chg (fun _ => False) w w' ∧
  ((e = .returned (.tuple #[.agg #[.int .i64 0, .slice none 0 0, .slice none 0 0, .bool false], .bool false]) ∧ ¬ max 1 z ≤ ((S.lv 0).length : Int)) ∨
   ∃ (k : Nat) (x : MetaV) (fr : List MetaV) (fv tv : Value) (bt : Bool), k < 3 ∧ (x :: fr).Sublist (S.lv k) ∧
     e = .returned (.tuple #[.agg #[.int .i64 (k : Int), fv, tv, .bool bt], .bool true]) ∧ Lst i64C w' fv ((x :: fr).map (·.file)) ∧ Lst i64C w' tv ((oversV S ((k : Int) + 1) (loF x.lo (x :: fr)) (hiF x.hi (x :: fr))).map (·.file)) ∧ (max 1 z ≤ ((S.lv 0).length : Int) → k = 0 ∧ x :: fr = S.lv 0) ∧
     (bt = true ↔ ∀ j : Nat, k + 2 ≤ j → j < 4 → oversV S (j : Int) (loF x.lo ((x :: fr) ++ oversV S ((k : Int) + 1) (loF x.lo (x :: fr)) (hiF x.hi (x :: fr)))) (hiF x.hi ((x :: fr) ++ oversV S ((k : Int) + 1) (loF x.lo (x :: fr)) (hiF x.hi (x :: fr)))) = []))

set_option maxRecDepth 1000000 in
set_option maxHeartbeats 8000000 in
theorem pick_pick (z b r : Int) (hz : I64 z) (hb : I64 b) (hr : I64 r) (s0 s1 s2 s3 : ByteArray) (l0 l1 l2 l3 : Value) (S : VerV) (w : World) (h : VerAt w (Lv l0 l1 l2 l3) S.lv) (hl : (flat S).length ≤ 41943040) :
    Calls Try.prog 5 #[.agg #[l0, l1, l2, l3, .int .i64 S.log, .int .i64 S.next, .int .i64 S.seq], .agg #[.int .i64 z, .int .i64 b, .int .i64 r], .agg #[.string s0, .string s1, .string s2, .string s3]] w (PickPost w S z) := by
  have hn : ∀ i, i < 4 → (S.lv i).length ≤ 100000000 := fun i hi => by have := lv_len S i hi; omega
  obtain ⟨w1, hw1⟩ : ∃ w1, w1 = ((((w.alloc (.cells #[l0, l1, l2, l3, .int .i64 S.log, .int .i64 S.next, .int .i64 S.seq] 29)).alloc (.cells #[.int .i64 z, .int .i64 b, .int .i64 r] 40)).alloc (.cells #[.string s0, .string s1, .string s2, .string s3] 25)).alloc (.cells #[.int .i64 0, .slice none 0 0, .slice none 0 0, .bool false] 37)).alloc (.cells #[.int .i64 0] 3) := ⟨_, rfl⟩
  have hc1 : Chg (fun _ => False) w w1 := by rw [hw1]; ((repeat (first | exact Chg.refl _ _ | assumption | refine Chg.drewN ?_ _ | refine Chg.drew ?_ | refine Chg.alloc ?_ _ | refine Chg.setCell ?_ (by first | (simp; done) | (simp; omega) | (intro h; simp at h; omega)) _)))
  have b0 : Blk w1 w.heap.size 29 #[l0, l1, l2, l3, .int .i64 S.log, .int .i64 S.next, .int .i64 S.seq] := by rw [hw1]; exact ((((Blk.new w _ _).alloc _).alloc _).alloc _).alloc _
  have b1 : Blk w1 (w.heap.size + 1) 40 #[.int .i64 z, .int .i64 b, .int .i64 r] := by rw [hw1]; exact (((Blk.new1 w _ _ _).alloc _).alloc _).alloc _
  have b2 : Blk w1 (w.heap.size + 1 + 1) 25 #[.string s0, .string s1, .string s2, .string s3] := by rw [hw1]; exact ((Blk.new2 w _ _ _ _).alloc _).alloc _
  have b3 : Blk w1 (w.heap.size + 1 + 1 + 1) 37 #[.int .i64 0, .slice none 0 0, .slice none 0 0, .bool false] := by
    rw [hw1]
    refine Blk.alloc ?_ _
    have := Blk.new (((w.alloc (.cells #[l0, l1, l2, l3, .int .i64 S.log, .int .i64 S.next, .int .i64 S.seq] 29)).alloc (.cells #[.int .i64 z, .int .i64 b, .int .i64 r] 40)).alloc (.cells #[.string s0, .string s1, .string s2, .string s3] 25)) 37 #[.int .i64 0, .slice none 0 0, .slice none 0 0, .bool false]
    simpa using this
  have b4 : Blk w1 (w.heap.size + 1 + 1 + 1 + 1) 3 #[.int .i64 0] := by
    rw [hw1]
    have := Blk.new ((((w.alloc (.cells #[l0, l1, l2, l3, .int .i64 S.log, .int .i64 S.next, .int .i64 S.seq] 29)).alloc (.cells #[.int .i64 z, .int .i64 b, .int .i64 r] 40)).alloc (.cells #[.string s0, .string s1, .string s2, .string s3] 25)).alloc (.cells #[.int .i64 0, .slice none 0 0, .slice none 0 0, .bool false] 37)) 3 #[.int .i64 0]
    simpa using this
  have hv1 := VerAt.same h hc1
  have hlt := b4.lt
  have HW1 := Lib.hid hw1
  have HC1 := Lib.hid hc1
  have B0 := Lib.hid b0
  have B1 := Lib.hid b1
  have B2 := Lib.hid b2
  have B3 := Lib.hid b3
  have B4 := Lib.hid b4
  have HV := Lib.hid hv1
  have HN := Lib.hid hn
  have HT := Lib.hid (fun (v : Value) (l : List MetaV) (W : World) (hh : Lst metaC W v l) => hh)
  clear hw1 hc1 b0 b1 b2 b3 b4 hv1 hn h HT
  go_enter Try.func5, Try.ntmps5
  go_wp2_with fail
  rw [← HW1.out]
  go_loopg [7] 3 (fun g c wr => c = .bool false ∧ ∃ k : Nat, k + g = 3 ∧ Blk wr (w.heap.size + 1 + 1 + 1 + 1) 3 #[.int .i64 (k : Int)] ∧ (0 < k → ¬ max 1 z ≤ ((S.lv 0).length : Int)) ∧ Chg (fun j => j = w.heap.size + 1 + 1 + 1 + 1) w1 wr)
  case atStart => exact ⟨rfl, 0, rfl, B4.out, fun h => absurd h (by omega), Chg.refl _ _⟩
  case round =>
    obtain ⟨rfl, k, hk, hlb, hz0, hcr⟩ := hrel
    have HZ0 := Lib.hid hz0
    clear hz0
    have lift : ∀ {p : Addr} {v : Value}, p.block < w.heap.size + 1 + 1 + 1 + 1 → w1.cell? p = some v → wr.cell? p = some v := fun {p} {v} hp hh => (hcr.cell (p := p) (by omega) (by omega)).trans hh
    have v0 := lift (p := ⟨w.heap.size, 0, none⟩) (by simp <;> omega) (by simpa using B0.out.cell 0)
    have v1 := lift (p := ⟨w.heap.size, 1, none⟩) (by simp <;> omega) (by simpa using B0.out.cell 1)
    have v2 := lift (p := ⟨w.heap.size, 2, none⟩) (by simp <;> omega) (by simpa using B0.out.cell 2)
    have v3 := lift (p := ⟨w.heap.size, 3, none⟩) (by simp <;> omega) (by simpa using B0.out.cell 3)
    have v4 := lift (p := ⟨w.heap.size, 4, none⟩) (by simp <;> omega) (by simpa using B0.out.cell 4)
    have v5 := lift (p := ⟨w.heap.size, 5, none⟩) (by simp <;> omega) (by simpa using B0.out.cell 5)
    have v6 := lift (p := ⟨w.heap.size, 6, none⟩) (by simp <;> omega) (by simpa using B0.out.cell 6)
    have u0 := lift (p := ⟨w.heap.size + 1, 0, none⟩) (by simp <;> omega) (by simpa using B1.out.cell 0)
    have u1 := lift (p := ⟨w.heap.size + 1, 1, none⟩) (by simp <;> omega) (by simpa using B1.out.cell 1)
    have u2 := lift (p := ⟨w.heap.size + 1, 2, none⟩) (by simp <;> omega) (by simpa using B1.out.cell 2)
    have q0 := hlb.cell 0
    simp at q0
    have hVr : VerAt wr (Lv l0 l1 l2 l3) S.lv := fun i hi => (HV.out i hi).chg hcr fun j hj e => by
      subst e
      obtain ⟨cs, hb⟩ := (HV.out i hi).typed hj
      exact hb.ne_ B4.out (by decide) rfl
    have hk4 : k < 4 := by omega
    have hfu := pick_full z b r hz hb hr l0 l1 l2 l3 S k hk4 wr hVr HN.out
    have HFU := Lib.hid hfu
    have HVR := Lib.hid hVr
    have HLB := Lib.hid hlb
    have HCR := Lib.hid hcr
    clear hfu hVr hlb hcr lift
    go_wp2_with fail
    refine HFU.out.mono ?_
    rintro e w5 ⟨⟨bo, rfl, hbo, hbo0⟩, hc5⟩
    have HB00 := Lib.hid hbo0
    clear hbo0
    have hlb5 := HLB.out.chg hc5 (by simp)
    have hcr5 := HCR.out.trans hc5 (fun _ _ e => e.elim)
    have hV5 := HVR.out.same hc5
    have q0 := hlb5.cell 0
    have fq0 := hlb5.frozen 0
    simp at q0
    have HLB5 := Lib.hid hlb5
    have HCR5 := Lib.hid hcr5
    have HV5 := Lib.hid hV5
    cases bo with
    | false =>
      clear hbo hc5 hlb5 hcr5 hV5 v0 v1 v2 v3 v4 v5 v6 u0 u1 u2
      by_cases h3 : k = 3
      · subst h3
        have b3 := B3.out.chg HCR5.out (by omega)
        have j0 := b3.cell 0
        have j1 := b3.cell 1
        have j2 := b3.cell 2
        have j3 := b3.cell 3
        have fj0 := b3.frozen 0
        have fj1 := b3.frozen 1
        have fj2 := b3.frozen 2
        have fj3 := b3.frozen 3
        simp at j0 j1 j2 j3
        have HB3 := Lib.hid b3
        clear b3
        go_upto_region 5 with fail
        go_cut [7] (fun c wx => c = .bool false ∧ Blk wx (w.heap.size + 1 + 1 + 1) 37 #[.int .i64 0, .slice none 0 0, .slice none 0 0, .bool false] ∧ Chg (fun _ => False) w wx)
        case first =>
          go_wp2_with fail
          go_meet
          refine ⟨rfl, ?_, ?_⟩
          · have h9 := ((((HB3.out.far (p := ⟨w.heap.size + 1 + 1 + 1 + 1, 0, none⟩) (by simp) (.int .i64 4)).set_ 0 (.int .i64 0)).set_ 1 (.slice none 0 0)).set_ 2 (.slice none 0 0)).set_ 3 (.bool false)
            simp at h9
            exact h9
          · have := HC1.out.trans HCR5.out (fun j hj e => by omega)
            ((repeat (first | with_reducible exact Chg.refl _ _ | with_reducible assumption | with_reducible refine Chg.drewN ?_ _ | with_reducible refine Chg.drew ?_ | with_reducible refine Chg.alloc ?_ _ | with_reducible refine Chg.setCell ?_ (by first | (simp; done) | (simp; omega) | (intro h; simp at h; omega)) _)))
        case rest =>
          obtain ⟨rfl, hz3, hcz⟩ := hcut
          have x0 := hz3.cell 0
          have x1 := hz3.cell 1
          have x2 := hz3.cell 2
          have x3 := hz3.cell 3
          simp at x0 x1 x2 x3
          have HCZ := Lib.hid hcz
          clear hz3 hcz
          go_wp2_with fail
          exact bodyPost_ret (v := .tuple #[.agg #[.int .i64 0, .slice none 0 0, .slice none 0 0, .bool false], .bool false]) (by simp [results, Try.results5, go_sem, x0, x1, x2, x3]) rfl ⟨HCZ.out, .inl ⟨rfl, by have := HZ0.out (by omega); omega⟩⟩
      · have hk3 : ((k : Int) + 1 == 4) = false := by simp; omega
        have hk3' : ¬ ((k : Int) + 1 = 4) := by omega
        go_wp2_with fail
        go_roundg (gk - 1)
        case rel =>
          refine ⟨rfl, k + 1, by omega, ?_, fun _ => ?_, ?_⟩
          · have h9 := HLB5.out.set_ 0 (.int .i64 ((k : Int) + 1))
            simp at h9
            exact h9
          · by_cases hk00 : k = 0
            · have := HB00.out hk00
              simpa using this.symm
            · exact HZ0.out (by omega)
          · have := HCR5.out
            ((repeat (first | with_reducible exact Chg.refl _ _ | with_reducible assumption | with_reducible refine Chg.drewN ?_ _ | with_reducible refine Chg.drew ?_ | with_reducible refine Chg.alloc ?_ _ | with_reducible refine Chg.setCell ?_ (by first | (simp; done) | (simp; omega) | (intro h; simp at h; omega)) _)))
        case measure => omega
    | true =>
      obtain ⟨hk3, hne⟩ := hbo rfl
      obtain ⟨f, hf⟩ : ∃ f, S.lv k = f := ⟨_, rfl⟩
      have hvk := HV5.out k hk4
      have hnk := HN.out k hk4
      rw [hf] at hvk hnk hne
      obtain ⟨la, lc, hL, _, _, _⟩ := meta_form hvk
      have b05 := (B0.out.chg HCR5.out (by omega))
      have b25 := (B2.out.chg HCR5.out (by omega))
      have hcell : w5.cell? ⟨w.heap.size, k, none⟩ = some (.slice la f.length lc) := by
        rw [← hL]
        have := b05.cell k
        match k, hk4 with
        | 0, _ => simpa [Lv] using this
        | 1, _ => simpa [Lv] using this
        | 2, _ => simpa [Lv] using this
        | 3, _ => simpa [Lv] using this
      rw [hL] at hvk
      obtain ⟨sk, hsk⟩ : ∃ sk : ByteArray, w5.cell? ⟨w.heap.size + 1 + 1, k, none⟩ = some (.string sk) := by
        have := b25.cell k
        match k, hk4 with
        | 0, _ => exact ⟨_, by simpa using this⟩
        | 1, _ => exact ⟨_, by simpa using this⟩
        | 2, _ => exact ⟨_, by simpa using this⟩
        | 3, _ => exact ⟨_, by simpa using this⟩
      have hcl := pick_clone f _ w5 (RM.of_lst hvk) (by omega)
      have HCL := Lib.hid hcl
      have HF := Lib.hid hf
      have HNE := Lib.hid hne
      have hk0' : (0 : Int) ≤ (k : Int) := by omega
      have hk4' : (k : Int) < 4 := by omega
      clear hbo hc5 hlb5 hcr5 hV5 v0 v1 v2 v3 v4 v5 v6 u0 u1 u2 hcl hvk b05 b25 hf hne hL
      go_wp2_with fail
      refine HCL.out.mono ?_
      rintro e w6 ⟨v9, rfl, h9, hc6⟩
      have hcl6 := (HLB5.out.chg hc6 (by simp)).cell 0
      have hsk6 := kd_chg hc6 hsk
      simp at hcl6
      have h9' := RM.of_lst h9
      obtain ⟨a9, c9, e9, hle9, hcm9, _⟩ := h9'
      subst e9
      have HR9 := Lib.hid (RM.of_lst h9)
      have HC6 := Lib.hid hc6
      clear hc6 h9 hcell q0 fq0
      go_upto_if 31 with fail
      go_cut [9] (fun v wx => ∃ x fr a c, v = .slice a (x :: fr).length c ∧ RM wx (.slice a (x :: fr).length c) (x :: fr) ∧ (x :: fr).Sublist f ∧ (k = 0 → x :: fr = f) ∧ Chg (fun _ => False) w6 wx)
      case first =>
        by_cases hk0 : k = 0
        · have hd1 : ¬ (0 : Int) < (k : Int) := by omega
          have hd2 : ¬ 0 < k := by omega
          obtain ⟨x, fr, hxf⟩ : ∃ x fr, f = x :: fr := by
            cases f with
            | nil => exact absurd rfl HNE.out
            | cons x fr => exact ⟨x, fr, rfl⟩
          have HXF := Lib.hid hxf
          clear hk0 hxf
          go_wp2_with fail
          go_meet
          exact ⟨x, fr, a9, c9, by rw [HXF.out], by rw [← HXF.out]; exact HR9.out, by rw [← HXF.out]; exact List.Sublist.refl _, fun _ => HXF.out.symm, Chg.refl _ _⟩
        · have hd1 : (0 : Int) < (k : Int) := by omega
          have hd2 : 0 < k := by omega
          have hix := pick_index f _ (w.heap.size + 1 + 1) (w.heap.size + 1 + 1 + 1 + 1) k hk4 sk w6 HR9.out (by omega) hsk6 hcl6
          have hpos : 0 < f.length := by
            rcases Nat.eq_zero_or_pos f.length with h0 | h0
            · exact absurd (List.eq_nil_of_length_eq_zero h0) HNE.out
            · exact h0
          have HIX := Lib.hid hix
          clear hk0 hix
          go_wp2_with fail
          refine HIX.out.mono ?_
          rintro e w7 ⟨⟨i, hi1, hi2, rfl⟩, hc7⟩
          obtain ⟨t, ht, htl⟩ : ∃ t : Nat, max (0 : Int) i = (t : Int) ∧ t < f.length := ⟨(max 0 i).toNat, by omega, by omega⟩
          have hsp : f = f.take t ++ f[t] :: f.drop (t + 1) := by rw [← List.drop_eq_getElem_cons, List.take_append_drop]
          obtain ⟨bb, off, cap, e9, hle, hcm, hone⟩ := RM.one (HR9.out.same hc7) hsp
          rw [show (f.take t).length = t by rw [List.length_take]; omega] at hone
          cases e9
          have htc : ¬ t = c9 := by omega
          have htc2 : ¬ c9 = t := by omega
          have hti : (0 : Int) ≤ (t : Int) := by omega
          have ht1 : ((t : Int) + 1) ≤ (c9 : Int) := by omega
          have hsub : [f[t]].Sublist f := by rw [List.singleton_sublist]; exact List.getElem_mem _
          have HONE := Lib.hid hone
          have HSUB := Lib.hid hsub
          have HC7 := Lib.hid hc7
          clear hsp hone hsub hc7
          go_wp2_with fail
          go_meet
          exact ⟨f[t], [], _, _, rfl, HONE.out, HSUB.out, fun h => by omega, HC7.out⟩
      case rest =>
        obtain ⟨x, fr, a, c, rfl, hRM, hsubl, hk00, hc7⟩ := hcut
        have HK00 := Lib.hid hk00
        clear hk00
        obtain ⟨G, hG⟩ : ∃ G, x :: fr = G := ⟨_, rfl⟩
        rw [hG] at hRM hsubl ⊢
        have HG := Lib.hid hG
        clear hG
        obtain ⟨wq, rfl⟩ : ∃ wq : World, wq = wc := ⟨_, rfl⟩
        have hc5q := HC6.out.then hc7
        have b0q := (B0.out.chg HCR5.out (by omega)).chg hc5q (by simp)
        have lbq := HLB5.out.chg hc5q (by simp)
        have v0 := b0q.cell 0
        have v1 := b0q.cell 1
        have v2 := b0q.cell 2
        have v3 := b0q.cell 3
        have v4 := b0q.cell 4
        have v5 := b0q.cell 5
        have v6 := b0q.cell 6
        have q0 := lbq.cell 0
        simp at v0 v1 v2 v3 v4 v5 v6 q0
        have hlx : G.length ≤ 41943040 := by
          have h1 := hsubl.length_le
          have h2 := lv_len S k hk4
          rw [HF.out] at h2
          omega
        have HRM := Lib.hid hRM
        have HSUBL := Lib.hid (show G.Sublist (S.lv k) by rw [HF.out]; exact hsubl)
        have HVQ := Lib.hid (HV5.out.same hc5q)
        have HB0Q := Lib.hid b0q
        have HLBQ := Lib.hid lbq
        have HB3Q := Lib.hid ((B3.out.chg HCR5.out (by omega)).chg hc5q (by simp))
        have HCQ := Lib.hid ((HC1.out.trans HCR5.out (fun j hj e => by omega)).then hc5q)
        have hszq : w1.heap.size ≤ wq.heap.size := Nat.le_trans HCR5.out.size hc5q.size
        have hw56 := w5
        obtain ⟨TO, hTO⟩ : ∃ TO, oversV S ((k : Int) + 1) (loF x.lo G) (hiF x.hi G) = TO := ⟨_, rfl⟩
        have hTOl : TO.length ≤ 41943040 := by
          rw [← hTO]
          unfold oversV
          split
          · refine Nat.le_trans (List.length_filter_le _ _) ?_
            have := lv_len S ((k : Int) + 1).toNat (by omega)
            omega
          · simp
        have HTO := Lib.hid hTO
        clear hRM hsubl hc7 hc5q b0q lbq hTO hw56 HR9 hcl6 hsk6 hsk HCL
        have hwk1 : IntKind.i64.wrap ((k : Int) + 1) = (k : Int) + 1 := IntWalk.i64_in _ (by omega)
        go_wp2_with fail
        go_cut [11] (fun t wx => ∃ ta tc, t = .slice ta TO.length tc ∧ RM wx (.slice ta TO.length tc) TO ∧ Chg (fun _ => False) wq wx)
        case first =>
          go_region_held3 (fun w' => Chg (fun _ => False) wq w' ∧ w'.cell? ⟨w.heap.size, 0, none⟩ = some l0 ∧ w'.cell? ⟨w.heap.size, 1, none⟩ = some l1 ∧ w'.cell? ⟨w.heap.size, 2, none⟩ = some l2 ∧ w'.cell? ⟨w.heap.size, 3, none⟩ = some l3 ∧ w'.cell? ⟨w.heap.size, 4, none⟩ = some (.int .i64 S.log) ∧ w'.cell? ⟨w.heap.size, 5, none⟩ = some (.int .i64 S.next) ∧ w'.cell? ⟨w.heap.size, 6, none⟩ = some (.int .i64 S.seq) ∧ w'.cell? ⟨w.heap.size + 1 + 1 + 1 + 1, 0, none⟩ = some (.int .i64 (k : Int)))
            ((go_split_ands; (try dsimp only); (repeat' with_reducible apply And.intro) <;> (repeat (first | with_reducible assumption | with_reducible exact Chg.refl _ _ | with_reducible refine kc_drew ?_ | with_reducible refine Chg.drew ?_ | with_reducible refine kd_chg hc6 ?_ | with_reducible refine Chg.then ?_ hc6))))
            (first | (go_at_call 15; refine (pick_lo x fr G HG.out.symm _ _ (HRM.out.same (by go_split_ands; first | with_reducible assumption | (with_reducible refine Chg.drew ?_; with_reducible assumption))) (by omega)).mono ?_; rintro e w6 ⟨rfl, hc6⟩) | (go_at_call 16; refine (pick_hi x fr G HG.out.symm _ _ (HRM.out.same (by go_split_ands; first | with_reducible assumption | (with_reducible refine Chg.drew ?_; with_reducible assumption))) (by omega)).mono ?_; rintro e w6 ⟨rfl, hc6⟩) | (go_at_call 14; refine (ver_over l0 l1 l2 l3 S ((k : Int) + 1) (loF x.lo G) (hiF x.hi G) _ (HVQ.out.same (by go_split_ands; first | with_reducible assumption | (with_reducible refine Chg.drew ?_; with_reducible assumption))) HN.out).mono ?_; rintro e w6 ⟨tv, rfl, hTv, _, hc6⟩))
          rw [HTO.out] at hTv
          obtain ⟨ta, tc, e, t1, t2, t3⟩ := RM.of_lst hTv
          subst e
          have HRT := Lib.hid (show RM w6 (.slice ta TO.length tc) TO from ⟨ta, tc, rfl, t1, t2, t3⟩)
          have HCT := Lib.hid (show Chg (fun _ => False) wq w6 by go_split_ands; with_reducible assumption)
          clear hTv hc6 t3
          go_wp2_with fail
          go_meet
          exact ⟨ta, tc, rfl, HRT.out, HCT.out⟩
        case rest =>
          obtain ⟨ta, tc, rfl, hRT, hcT⟩ := hcut
          obtain ⟨wt, rfl⟩ : ∃ wt : World, wt = wc := ⟨_, rfl⟩
          have q0 := kd_chg hcT q0
          have HRT := Lib.hid hRT
          have HRMt := Lib.hid (HRM.out.same hcT)
          have HCT := Lib.hid hcT
          have hszt : wq.heap.size ≤ wt.heap.size := hcT.size
          clear hRT hcT v0 v1 v2 v3 v4 v5 v6 hwk1
          go_wp2_with fail
          go_cut [12] (fun p wx => ∃ g fa fc ua uc, p = .pointer (some ⟨g, 0, none⟩) ∧ wt.heap.size ≤ g ∧ Blk wx g 37 #[.int .i64 (k : Int), .slice fa G.length fc, .slice ua TO.length uc, .bool true] ∧ Lst i64C wx (.slice fa G.length fc) (G.map (·.file)) ∧ Lst i64C wx (.slice ua TO.length uc) (TO.map (·.file)) ∧ Chg (fun _ => False) wt wx)
          case first =>
            go_region_held3 (fun w' => Chg (fun _ => False) wt w' ∧ w'.cell? ⟨w.heap.size + 1 + 1 + 1 + 1, 0, none⟩ = some (.int .i64 (k : Int)))
              ((go_split_ands; (try dsimp only); (repeat' with_reducible apply And.intro) <;> (repeat (first | with_reducible assumption | with_reducible exact Chg.refl _ _ | with_reducible refine kc_drew ?_ | with_reducible refine kc_alloc _ ?_ | with_reducible refine kc_set (by simp <;> omega) ?_ | with_reducible refine Chg.drew ?_ | with_reducible refine Chg.alloc ?_ _ | with_reducible refine Chg.setCell ?_ (by first | (simp; done) | (simp; omega) | (intro h; simp at h; omega)) _ | with_reducible refine kd_chg hc6 ?_ | with_reducible refine Chg.then ?_ hc6))))
              (first | (go_at_call 17; (with_reducible refine (pick_files G (.slice a G.length c) _ (HRMt.out.same (by go_split_ands; first | with_reducible assumption | (with_reducible refine Chg.drew ?_; with_reducible assumption) | (with_reducible refine Chg.alloc ?_ _; with_reducible assumption) | (with_reducible refine Chg.drew ?_; with_reducible refine Chg.alloc ?_ _; with_reducible assumption) | (with_reducible refine Chg.alloc ?_ _; with_reducible refine Chg.drew ?_; with_reducible assumption))) (by omega)).mono ?_); rintro e w6 ⟨fv, rfl, hFv, _, hc6⟩; obtain ⟨fa, fc, ef, _⟩ := i64_form hFv; rw [List.length_map] at ef; subst ef; have hW : Chg (fun _ => False) wt w6 := Chg.then (by go_split_ands; first | with_reducible assumption | (with_reducible refine Chg.drew ?_; with_reducible assumption) | (with_reducible refine Chg.alloc ?_ _; with_reducible assumption) | (with_reducible refine Chg.drew ?_; with_reducible refine Chg.alloc ?_ _; with_reducible assumption) | (with_reducible refine Chg.alloc ?_ _; with_reducible refine Chg.drew ?_; with_reducible assumption)) hc6; have hQ := kd_chg hW q0; have hWs := hW.size; (first | (have hz := Blk.chg hz hc6 (by simp)) | with_reducible (have hz := Blk.chg (Blk.new _ 37 #[.int .i64 0, .slice none 0 0, .slice none 0 0, .bool false]) hc6 (by simp)) | with_reducible (have hz := Blk.chg (Blk.drew (Blk.new _ 37 #[.int .i64 0, .slice none 0 0, .slice none 0 0, .bool false])) hc6 (by simp)) | skip); (try (have z0 := hz.cell 0; have z1 := hz.cell 1; have z2 := hz.cell 2; have z3 := hz.cell 3; have fz0 := hz.frozen 0; have fz1 := hz.frozen 1; have fz2 := hz.frozen 2; have fz3 := hz.frozen 3; simp at z0 z1 z2 z3))) | (go_at_call 17; (with_reducible refine (pick_files TO (.slice ta TO.length tc) _ (HRT.out.same (by go_split_ands; first | with_reducible assumption | (with_reducible refine Chg.drew ?_; with_reducible assumption) | (with_reducible refine Chg.alloc ?_ _; with_reducible assumption) | (with_reducible refine Chg.drew ?_; with_reducible refine Chg.alloc ?_ _; with_reducible assumption) | (with_reducible refine Chg.alloc ?_ _; with_reducible refine Chg.drew ?_; with_reducible assumption))) (by omega)).mono ?_); rintro e w6 ⟨uv, rfl, hUv, _, hc6⟩; (first | (have hFv := Lst.same hFv hc6) | (have hFv := Lst.same (Lst.same hFv (Chg.alloc (Chg.refl _ _) _)) hc6) | skip); obtain ⟨ua, uc, eu, _⟩ := i64_form hUv; rw [List.length_map] at eu; subst eu; have hW : Chg (fun _ => False) wt w6 := Chg.then (by go_split_ands; first | with_reducible assumption | (with_reducible refine Chg.drew ?_; with_reducible assumption) | (with_reducible refine Chg.alloc ?_ _; with_reducible assumption) | (with_reducible refine Chg.drew ?_; with_reducible refine Chg.alloc ?_ _; with_reducible assumption) | (with_reducible refine Chg.alloc ?_ _; with_reducible refine Chg.drew ?_; with_reducible assumption)) hc6; have hQ := kd_chg hW q0; have hWs := hW.size; (first | (have hz := Blk.chg hz hc6 (by simp)) | with_reducible (have hz := Blk.chg (Blk.new _ 37 #[.int .i64 0, .slice none 0 0, .slice none 0 0, .bool false]) hc6 (by simp)) | with_reducible (have hz := Blk.chg (Blk.drew (Blk.new _ 37 #[.int .i64 0, .slice none 0 0, .slice none 0 0, .bool false])) hc6 (by simp)) | skip); (try (have z0 := hz.cell 0; have z1 := hz.cell 1; have z2 := hz.cell 2; have z3 := hz.cell 3; have fz0 := hz.frozen 0; have fz1 := hz.frozen 1; have fz2 := hz.frozen 2; have fz3 := hz.frozen 3; simp at z0 z1 z2 z3))))
            · have HFV := Lib.hid hFv
              have HUV := Lib.hid hUv
              have HWW := Lib.hid hW
              clear hFv hUv hc6 hW
              go_wp2_with fail
              go_meet
              exact ⟨_, fa, fc, ua, uc, rfl, hWs, Blk.new w6 _ _, HFV.out.same ((Chg.refl _ _).alloc _), HUV.out.same ((Chg.refl _ _).alloc _), HWW.out.alloc _⟩
            all_goals
              have HFV := Lib.hid hFv
              have HUV := Lib.hid hUv
              have HWW := Lib.hid hW
              have HZ := Lib.hid hz
              clear hFv hUv hc6 hW hz
              go_wp2_with fail
              go_meet
              refine ⟨_, fa, fc, ua, uc, rfl, ?_, job_put HZ.out HFV.out HUV.out HWW.out ?_⟩
              all_goals first | omega | (simp; omega)
          case rest =>
            obtain ⟨g, fa, fc, ua, uc, rfl, hg, hbg, hFv, hUv, hcJ⟩ := hcut
            obtain ⟨wj, rfl⟩ : ∃ wj : World, wj = wc := ⟨_, rfl⟩
            have hFORM := HRMt.out
            obtain ⟨a', c', ea, hGc, hcm, hga⟩ := hFORM
            cases ea
            obtain ⟨ab, aoff, rfl, _⟩ := hga [] x fr HG.out.symm
            have HRG := Lib.hid (HRMt.out.same hcJ)
            have HRO := Lib.hid (HRT.out.same hcJ)
            have HBG := Lib.hid hbg
            have HFV := Lib.hid hFv
            have HUV := Lib.hid hUv
            have HCJ := Lib.hid (HCT.out.then hcJ)
            have q0 := kd_chg hcJ q0
            have hszj : wt.heap.size ≤ wj.heap.size := hcJ.size
            have hGpos : 0 < G.length := by rw [← HG.out]; simp
            have hGc2 : (G.length : Int) ≤ (c : Int) := by omega
            clear hbg hFv hUv hcJ hga
            go_wp2_with (at_builtin; refine wpList_both _ (by rfl) _ _ (by rfl) G TO (.slice (some ⟨ab, aoff, none⟩) G.length c) (.slice ta TO.length tc) (some ⟨ab, aoff, none⟩) c rfl (by rfl) (by rfl) HRG.out HRO.out (by omega) (by omega) (by intro e; rw [e] at hGpos; simp at hGpos) ?_)
            intro v13 wb hA13 hcb
            obtain ⟨AL, hAL⟩ : ∃ AL, G ++ TO = AL := ⟨_, rfl⟩
            rw [hAL] at hA13
            have hALx : AL = x :: (fr ++ TO) := by rw [← hAL, ← HG.out]; simp
            have hALl : AL.length ≤ 83886080 := by rw [← hAL, List.length_append]; omega
            obtain ⟨aa, ac, e13, t1, t2, t3⟩ := hA13
            subst e13
            have HRA := Lib.hid (show RM wb (.slice aa AL.length ac) AL from ⟨aa, ac, rfl, t1, t2, t3⟩)
            have HALX := Lib.hid hALx
            have HALD := Lib.hid hAL
            have hcqb := HCJ.out.then hcb
            have b0b := HB0Q.out.chg hcqb (by simp)
            have v0 := b0b.cell 0
            have v1 := b0b.cell 1
            have v2 := b0b.cell 2
            have v3 := b0b.cell 3
            have v4 := b0b.cell 4
            have v5 := b0b.cell 5
            have v6 := b0b.cell 6
            simp at v0 v1 v2 v3 v4 v5 v6
            have q0 := kd_chg hcb q0
            have HBGb := Lib.hid (HBG.out.chg hcb (by simp))
            have HFVb := Lib.hid (HFV.out.same hcb)
            have HUVb := Lib.hid (HUV.out.same hcb)
            have HCQB := Lib.hid (HCQ.out.then hcqb)
            have HVB := Lib.hid (HVQ.out.same hcqb)
            have HB3B := Lib.hid (HB3Q.out.chg hcqb (by simp))
            have hglb := HBGb.out.lt
            have hszb : wj.heap.size ≤ wb.heap.size := hcb.size
            have hwk2 : IntKind.i64.wrap ((k : Int) + 2) = ((k + 2 : Nat) : Int) := by rw [IntWalk.i64_in _ (by omega)]; omega
            clear hAL hALx t3 hcqb b0b hcb
            go_wp2_with fail
            go_loopw [14] (fun j wr => ∃ (n : Nat) (bt : Bool), k + 2 ≤ n ∧ n ≤ 5 ∧ j = .int .i64 n ∧ (bt = true ↔ ∀ j : Nat, k + 2 ≤ j → j < n → oversV S (j : Int) (loF x.lo AL) (hiF x.hi AL) = []) ∧ Blk wr g 37 #[.int .i64 (k : Int), .slice fa G.length fc, .slice ua TO.length uc, .bool bt] ∧ Chg (fun i => i = g) wb wr) (fun j _ => 5 - (intOf j).toNat)
            case atStart => exact ⟨k + 2, true, Nat.le_refl _, by omega, by first | rfl | go_num | (congr 1; omega), ⟨fun _ j h1 h2 => absurd h2 (by omega), fun _ => rfl⟩, HBGb.out, Chg.refl _ _⟩
            case round =>
              obtain ⟨n, bt, hn2, hn5, rfl, hbt, hbw, hcw⟩ := hrel
              have HBT := Lib.hid hbt
              clear hbt
              by_cases hlt4 : n < 4
              · have lift : ∀ {p : Addr} {v : Value}, p.block < w1.heap.size → wb.cell? p = some v → wr.cell? p = some v := fun {p} {v} hp hh => (hcw.cell (p := p) (World.block_lt_of_cell? wb p hh) (by omega)).trans hh
                have v0 := lift (by simp <;> omega) v0
                have v1 := lift (by simp <;> omega) v1
                have v2 := lift (by simp <;> omega) v2
                have v3 := lift (by simp <;> omega) v3
                have v4 := lift (by simp <;> omega) v4
                have v5 := lift (by simp <;> omega) v5
                have v6 := lift (by simp <;> omega) v6
                have hRAr : RM wr (.slice aa AL.length ac) AL := HRA.out.far HBGb.out hcw
                have hVr : VerAt wr (Lv l0 l1 l2 l3) S.lv := fun i hi => (HVB.out i hi).chg hcw fun j hj e => by
                  subst e
                  obtain ⟨cs, hb⟩ := (HVB.out i hi).typed hj
                  exact hb.ne_ HBGb.out (by decide) rfl
                have HRAr := Lib.hid hRAr
                have HVr := Lib.hid hVr
                have HBW := Lib.hid hbw
                have HCW := Lib.hid hcw
                have hlt4' : (n : Int) < 4 := by omega
                clear hRAr hVr hbw hcw lift
                go_upto_region 16 with fail
                go_cut [77] (fun c wx => (∃ bo : Bool, c = .bool bo ∧ (bo = true ↔ oversV S (n : Int) (loF x.lo AL) (hiF x.hi AL) ≠ [])) ∧ Chg (fun _ => False) wr wx)
                case first =>
                  go_region_held3 (fun w' => Chg (fun _ => False) wr w' ∧ w'.cell? ⟨w.heap.size, 0, none⟩ = some l0 ∧ w'.cell? ⟨w.heap.size, 1, none⟩ = some l1 ∧ w'.cell? ⟨w.heap.size, 2, none⟩ = some l2 ∧ w'.cell? ⟨w.heap.size, 3, none⟩ = some l3 ∧ w'.cell? ⟨w.heap.size, 4, none⟩ = some (.int .i64 S.log) ∧ w'.cell? ⟨w.heap.size, 5, none⟩ = some (.int .i64 S.next) ∧ w'.cell? ⟨w.heap.size, 6, none⟩ = some (.int .i64 S.seq))
                    ((go_split_ands; (try dsimp only); (repeat' with_reducible apply And.intro) <;> (repeat (first | with_reducible assumption | with_reducible exact Chg.refl _ _ | with_reducible refine kc_drew ?_ | with_reducible refine Chg.drew ?_ | with_reducible refine kd_chg hc6 ?_ | with_reducible refine Chg.then ?_ hc6))))
                    (first | (go_at_call 15; (with_reducible refine (pick_lo x (fr ++ TO) AL HALX.out (.slice aa AL.length ac) _ (HRAr.out.same (by go_split_ands; first | with_reducible assumption | (with_reducible refine Chg.drew ?_; with_reducible assumption))) (by omega)).mono ?_); rintro e w6 ⟨rfl, hc6⟩) | (go_at_call 16; (with_reducible refine (pick_hi x (fr ++ TO) AL HALX.out (.slice aa AL.length ac) _ (HRAr.out.same (by go_split_ands; first | with_reducible assumption | (with_reducible refine Chg.drew ?_; with_reducible assumption))) (by omega)).mono ?_); rintro e w6 ⟨rfl, hc6⟩) | (go_at_call 14; (with_reducible refine (ver_over l0 l1 l2 l3 S (n : Int) (loF x.lo AL) (hiF x.hi AL) _ (HVr.out.same (by go_split_ands; first | with_reducible assumption | (with_reducible refine Chg.drew ?_; with_reducible assumption))) HN.out).mono ?_); rintro e w6 ⟨tv, rfl, hTv, _, hc6⟩; obtain ⟨za, zc, ez, _⟩ := meta_form hTv; subst ez))
                  have HWW := Lib.hid (show Chg (fun _ => False) wr w6 by go_split_ands; with_reducible assumption)
                  clear hTv hc6
                  go_wp2_with fail
                  go_meet
                  exact ⟨⟨_, rfl, by simp [List.length_pos_iff]⟩, HWW.out⟩
                case rest =>
                  obtain ⟨⟨bo, rfl, hbo⟩, hcx⟩ := hcut
                  have HBO := Lib.hid hbo
                  clear hbo
                  have hbx := HBW.out.chg hcx (by simp)
                  have fj3 := hbx.frozen 3
                  have j3 := hbx.cell 3
                  simp at j3
                  have HBX := Lib.hid hbx
                  have HCX := Lib.hid (HCW.out.trans hcx (fun _ _ e => e.elim))
                  clear hbx hcx
                  cases bo with
                  | true =>
                    go_wp2_with fail
                    go_roundw
                    case rel =>
                      refine ⟨n + 1, false, by omega, by omega, by go_num, ⟨fun h => (by cases h), fun h => absurd (h n hn2 (by omega)) (HBO.out.1 rfl)⟩, ?_, ?_⟩
                      · have h9 := HBX.out.set_ 3 (.bool false)
                        simp at h9
                        exact h9
                      · have := HCX.out
                        ((repeat (first | with_reducible exact Chg.refl _ _ | with_reducible assumption | with_reducible refine Chg.drewN ?_ _ | with_reducible refine Chg.drew ?_ | with_reducible refine Chg.alloc ?_ _ | with_reducible refine Chg.setCell ?_ (by first | (simp; done) | (simp; omega) | (intro h; simp at h; omega)) _)))
                    case measure => simp [intOf]; omega
                  | false =>
                    go_wp2_with fail
                    go_roundw
                    case rel =>
                      have h0 : oversV S (n : Int) (loF x.lo AL) (hiF x.hi AL) = [] := Classical.byContradiction fun hh => (by have := HBO.out.2 hh; cases this)
                      refine ⟨n + 1, bt, by omega, by omega, by go_num, ⟨fun h j h1 h2 => ?_, fun h => HBT.out.2 fun j h1 h2 => h j h1 (by omega)⟩, HBX.out, HCX.out⟩
                      by_cases hj : j = n
                      · subst hj; exact h0
                      · exact HBT.out.1 h j h1 (by omega)
                    case measure => simp [intOf]; omega
              · have hge4 : ¬ (n : Int) < 4 := by omega
                have hr3 := HB3B.out.chg hcw (by omega)
                have c0 := hbw.cell 0
                have c1 := hbw.cell 1
                have c2 := hbw.cell 2
                have c3 := hbw.cell 3
                have f0 := hr3.frozen 0
                have f1 := hr3.frozen 1
                have f2 := hr3.frozen 2
                have f3 := hr3.frozen 3
                have r0 := hr3.cell 0
                have r1 := hr3.cell 1
                have r2 := hr3.cell 2
                have r3 := hr3.cell 3
                simp at c0 c1 c2 c3 r0 r1 r2 r3
                have HR3 := Lib.hid hr3
                have hFr : Lst i64C wr (.slice fa G.length fc) (G.map (·.file)) := HFVb.out.chg hcw fun j hj e => by
                  subst e
                  obtain ⟨cs, hb⟩ := HFVb.out.typed hj
                  exact hb.ne_ HBGb.out (by decide) rfl
                have hUr : Lst i64C wr (.slice ua TO.length uc) (TO.map (·.file)) := HUVb.out.chg hcw fun j hj e => by
                  subst e
                  obtain ⟨cs, hb⟩ := HUVb.out.typed hj
                  exact hb.ne_ HBGb.out (by decide) rfl
                have HFR := Lib.hid hFr
                have HUR := Lib.hid hUr
                have HCW := Lib.hid (HCQB.out.trans hcw (fun j hj e => by omega))
                clear hr3 hFr hUr hbw hcw v0 v1 v2 v3 v4 v5 v6
                go_upto_region 18 with fail
                go_cut [7] (fun c wx => c = .bool true ∧ Blk wx (w.heap.size + 1 + 1 + 1) 37 #[.int .i64 (k : Int), .slice fa G.length fc, .slice ua TO.length uc, .bool bt] ∧ Chg (fun j => j = w.heap.size + 1 + 1 + 1) wr wx)
                case first =>
                  go_wp2_with fail
                  go_meet
                  refine ⟨rfl, ?_, by ((repeat (first | with_reducible exact Chg.refl _ _ | with_reducible assumption | with_reducible refine Chg.drewN ?_ _ | with_reducible refine Chg.drew ?_ | with_reducible refine Chg.alloc ?_ _ | with_reducible refine Chg.setCell ?_ (by first | (simp; done) | (simp; omega) | (intro h; simp at h; omega)) _)))⟩
                  have h9 := (((HR3.out.set_ 0 (.int .i64 (k : Int))).set_ 1 (.slice fa G.length fc)).set_ 2 (.slice ua TO.length uc)).set_ 3 (.bool bt)
                  simp at h9
                  exact h9
                case rest =>
                  obtain ⟨rfl, hz3, hcz⟩ := hcut
                  have t1 : ∀ {v : Value} {l : List Int}, Lst i64C wr v l → ∀ j, v.ownBlock = some j → ¬ j = w.heap.size + 1 + 1 + 1 := fun h j hj e => by
                    subst e
                    obtain ⟨cs, hb⟩ := h.typed hj
                    exact hb.ne_ HR3.out (by decide) rfl
                  have HF9 := Lib.hid (HFR.out.chg hcz (t1 HFR.out))
                  have HU9 := Lib.hid (HUR.out.chg hcz (t1 HUR.out))
                  have HC9 := Lib.hid (HCW.out.trans hcz (fun j hj e => by omega))
                  have x0 := hz3.cell 0
                  have x1 := hz3.cell 1
                  have x2 := hz3.cell 2
                  have x3 := hz3.cell 3
                  simp at x0 x1 x2 x3
                  clear hz3 hcz t1
                  go_wp2_with fail
                  refine bodyPost_ret (v := .tuple #[.agg #[.int .i64 (k : Int), .slice fa G.length fc, .slice ua TO.length uc, .bool bt], .bool true]) (by simp [results, Try.results5, go_sem, x0, x1, x2, x3]) rfl ⟨HC9.out, .inr ⟨k, x, fr, _, _, bt, hk3, by rw [HG.out]; exact HSUBL.out, rfl, by rw [HG.out]; exact HF9.out, by rw [HG.out, HTO.out]; exact HU9.out, fun hm => ?_, ?_⟩⟩
                  · have hk00 : k = 0 := Classical.byContradiction fun h => by have := HZ0.out (by omega); omega
                    refine ⟨hk00, ?_⟩
                    have h1 := HK00.out hk00
                    have h2 := HF.out
                    rw [hk00] at h2
                    rw [HG.out, h2, ← h1, HG.out]
                  · rw [HG.out, HTO.out, HALD.out]
                    exact ⟨fun h j h1 h2 => HBT.out.1 h j h1 (by omega), fun h => HBT.out.2 fun j h1 h2 => by
                      by_cases h4 : j < 4
                      · exact h j h1 h4
                      · exact if_neg (by omega)⟩
end Go.Proofs.Ytkhgfmmcjoglkaa
