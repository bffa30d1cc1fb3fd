/-
  The pattern of a text: the program's Parse, which catches a fault.
-/
import Derived.Test.YtjloddlkleileaaGreatDoorPatE
import Derived.Defers
import Derived.Recover
import Derived.Laws.Pointers
namespace Go.Proofs.YtjloddlkleileaaGreatDoor
open Go.RowKit
set_option linter.unusedVariables false
set_option linter.unusedSimpArgs false

theorem pd_nil (w : World) : (Instr.typeAssert .nilIface 20 334 true).run Tryz.prog w = .ok (.tuple #[.agg #[.int .i64 0, .int .i64 0], .bool false]) w := by kernel_rfl
theorem pd_fault (i c : Int) (w : World) : (Instr.typeAssert (.iface 334 (.agg #[.int .i64 i, .int .i64 c])) 20 334 true).run Tryz.prog w = .ok (.tuple #[.agg #[.int .i64 i, .int .i64 c], .bool true]) w := by kernel_rfl
set_option maxRecDepth 100000 in
set_option maxHeartbeats 2000000 in
theorem pd_idle (g : Nat) (w : World) :
    CallsD Tryz.prog 168 #[.pointer (some ⟨g, 0, none⟩), .pointer (some ⟨g + 1, 0, none⟩), .pointer (some ⟨g + 1 + 1, 0, none⟩)] .returning w fun e u' w' => e = .returned (.tuple #[]) ∧ u' = .returning ∧ Chg (fun _ => False) w w' := by
  refine callsD_of_wpS Tryz.func168 rfl fun c₀ cs hu => ?_
  have h := pd_nil w
  apply wpS_seq
  apply wpS_region
  simp [wpOpsS, go_sem, recoverD, hu, Tryz.ntmps168, Exit.thenS, h]
  apply wpS_seq
  apply wpS_region
  simp [wpOpsS, go_sem, Tryz.ntmps168, Exit.thenS]
  refine wpS_cond (t := false) (by simp [Act.eval, Array.replicate]) ?_
  simp only [Bool.false_eq_true, if_false]
  refine wpS_of_wp (wp_skip ?_)
  cases c₀
  simp_all [bodyPostS, results, Tryz.results168]
  ((repeat (first | exact Chg.refl _ _ | assumption | refine Chg.drewN ?_ _ | refine Chg.drew ?_ | refine Chg.alloc ?_ _ | refine Chg.setCell ?_ (by first | (simp; done) | (simp; omega) | (intro h; simp at h; omega)) _)))
set_option maxRecDepth 100000 in
set_option maxHeartbeats 2000000 in
theorem pd_catch (g : Nat) (i c : Int) (C : Array Value) (x z : Value) (older : List PanicEntry) (w : World) (hg : Blk w g 242 C) (hcs : C.size = 3) (hx : Blk w (g + 1) 3 #[x]) (hz : Blk w (g + 1 + 1) 30 #[z]) :
    CallsD Tryz.prog 168 #[.pointer (some ⟨g, 0, none⟩), .pointer (some ⟨g + 1, 0, none⟩), .pointer (some ⟨g + 1 + 1, 0, none⟩)] (.panicking ({ v := .iface 334 (.agg #[.int .i64 i, .int .i64 c]), recovered := false } :: older)) w fun e u' w' =>
      e = .returned (.tuple #[]) ∧ u' = .panicking ({ v := .iface 334 (.agg #[.int .i64 i, .int .i64 c]), recovered := true } :: older) ∧ Blk w' g 242 #[.slice none 0 0, .slice none 0 0, .int .i64 0] ∧ Blk w' (g + 1) 3 #[.int .i64 i] ∧ Blk w' (g + 1 + 1) 30 #[.int .i64 c] ∧ Chg (fun k => k = g ∨ k = g + 1 ∨ k = g + 1 + 1) w w' := by
  refine callsD_of_wpS Tryz.func168 rfl fun c₀ cs hu => ?_
  have h := pd_fault i c w
  apply wpS_seq
  apply wpS_region
  simp [wpOpsS, go_sem, recoverD, hu, Tryz.ntmps168, Exit.thenS, h]
  apply wpS_seq
  apply wpS_region
  simp [wpOpsS, go_sem, Tryz.ntmps168, Exit.thenS]
  refine wpS_cond (t := true) (by simp [Act.eval, Array.replicate]) ?_
  simp only [if_true]
  obtain ⟨c0, c1, c2, rfl⟩ : ∃ c0 c1 c2, C = #[c0, c1, c2] := by
    obtain ⟨l⟩ := C
    match l, hcs with
    | [a, b, c], _ => exact ⟨a, b, c, rfl⟩
  obtain ⟨w1, hw1⟩ : ∃ w1, w1 = w.alloc (.cells #[.int .i64 i, .int .i64 c] 334) := ⟨_, rfl⟩
  rw [← hw1]
  refine wpS_of_wp ?_
  obtain ⟨h0, hh0⟩ : ∃ h0, w.heap.size = h0 := ⟨_, rfl⟩
  rw [hh0]
  obtain ⟨T, hT⟩ : ∃ T : Value, T = .tuple #[.agg #[.int .i64 i, .int .i64 c], .bool true] := ⟨_, rfl⟩
  rw [← hT]
  simp only [Array.replicate, List.replicate_succ, List.replicate_zero, List.setIfInBounds_toArray, List.set_cons_zero, List.set_cons_succ, List.append_toArray, List.cons_append, List.nil_append]
  have hlt := hg.lt
  have hltx := hx.lt
  have hltz := hz.lt
  have hf1 : Blk w1 h0 334 #[.int .i64 i, .int .i64 c] := by rw [hw1, ← hh0]; exact Blk.new _ _ _
  have hg1 : Blk w1 g 242 #[c0, c1, c2] := by rw [hw1]; exact hg.alloc _
  have hx1 : Blk w1 (g + 1) 3 #[x] := by rw [hw1]; exact hx.alloc _
  have hz1 : Blk w1 (g + 1 + 1) 30 #[z] := by rw [hw1]; exact hz.alloc _
  have hc1 : Chg (fun k => k = g ∨ k = g + 1 ∨ k = g + 1 + 1) w w1 := by rw [hw1]; ((repeat (first | exact Chg.refl _ _ | assumption | refine Chg.drewN ?_ _ | refine Chg.drew ?_ | refine Chg.alloc ?_ _ | refine Chg.setCell ?_ (by first | (simp; done) | (simp; omega) | (intro h; simp at h; omega)) _)))
  have hn1 : h0 ≠ g := by omega
  have hn2 : h0 ≠ g + 1 := by omega
  have hn3 : h0 ≠ g + 1 + 1 := by omega
  have a0 := hf1.cell 0
  have a1 := hf1.cell 1
  have y0 := hg1.cell 0
  have y1 := hg1.cell 1
  have y2 := hg1.cell 2
  simp at y0 y1 y2
  have yf0 := hg1.frozen 0
  have yf1 := hg1.frozen 1
  have yf2 := hg1.frozen 2
  have x0 := hx1.cell 0
  have xf0 := hx1.frozen 0
  have z0 := hz1.cell 0
  have zf0 := hz1.frozen 0
  simp at a0 a1 x0 z0
  have HG1 := Lib.hid hg1
  have HX1 := Lib.hid hx1
  have HZ1 := Lib.hid hz1
  have HC1 := Lib.hid hc1
  have HT := Lib.hid hT
  have HW1 := Lib.hid hw1
  have HH0 := Lib.hid hh0
  have HG := Lib.hid hg
  have HX := Lib.hid hx
  have HZ := Lib.hid hz
  have HF1 := Lib.hid hf1
  have HCS := Lib.hid hcs
  have HU := Lib.hid hu
  have H := Lib.hid h
  clear hg1 hx1 hz1 hc1 hT hw1 hh0 hg hx hz hf1 hcs hu h
  go_region_law (fail)
  all_goals
    obtain ⟨wz, hwz⟩ : ∃ wz : World, wz = (((((w1.setCell ⟨g, 0, none⟩ (.slice none 0 0)).setCell ⟨g, 1, none⟩ (.slice none 0 0)).setCell ⟨g, 2, none⟩ (.int .i64 0)).setCell ⟨g + 1, 0, none⟩ (.int .i64 i)).setCell ⟨g + 1 + 1, 0, none⟩ (.int .i64 c)).drew := ⟨_, rfl⟩
    have hgz : Blk wz g 242 #[.slice none 0 0, .slice none 0 0, .int .i64 0] := by
      rw [hwz]
      have hz := ((((HG1.out.set_ 0 (.slice none 0 0)).set_ 1 (.slice none 0 0)).set_ 2 (.int .i64 0)).far (p := ⟨g + 1, 0, none⟩) (by first | (simp; done) | (simp; omega)) (.int .i64 i)).far (p := ⟨g + 1 + 1, 0, none⟩) (by first | (simp; done) | (simp; omega)) (.int .i64 c)
      exact Blk.drew (by simpa using hz)
    have hxz : Blk wz (g + 1) 3 #[.int .i64 i] := by
      rw [hwz]
      have hz := ((((HX1.out.far (p := ⟨g, 0, none⟩) (by first | (simp; done) | (simp; omega)) (.slice none 0 0)).far (p := ⟨g, 1, none⟩) (by first | (simp; done) | (simp; omega)) (.slice none 0 0)).far (p := ⟨g, 2, none⟩) (by first | (simp; done) | (simp; omega)) (.int .i64 0)).set_ 0 (.int .i64 i)).far (p := ⟨g + 1 + 1, 0, none⟩) (by first | (simp; done) | (simp; omega)) (.int .i64 c)
      exact Blk.drew (by simpa using hz)
    have hzz : Blk wz (g + 1 + 1) 30 #[.int .i64 c] := by
      rw [hwz]
      have hz := ((((HZ1.out.far (p := ⟨g, 0, none⟩) (by first | (simp; done) | (simp; omega)) (.slice none 0 0)).far (p := ⟨g, 1, none⟩) (by first | (simp; done) | (simp; omega)) (.slice none 0 0)).far (p := ⟨g, 2, none⟩) (by first | (simp; done) | (simp; omega)) (.int .i64 0)).far (p := ⟨g + 1, 0, none⟩) (by first | (simp; done) | (simp; omega)) (.int .i64 i)).set_ 0 (.int .i64 c)
      exact Blk.drew (by simpa using hz)
    have hcz : Chg (fun k => k = g ∨ k = g + 1 ∨ k = g + 1 + 1) w wz := by rw [hwz]; have := HC1.out; ((repeat (first | with_reducible exact Chg.refl _ _ | with_reducible assumption | with_reducible refine Chg.drewN ?_ _ | with_reducible refine Chg.drew ?_ | with_reducible refine Chg.alloc ?_ _ | with_reducible refine Chg.setCell ?_ (by first | (simp; done) | (simp; omega) | (intro h; simp at h; omega)) _)))
    rw [← hwz]
    have HGZ := Lib.hid hgz
    have HXZ := Lib.hid hxz
    have HZZ := Lib.hid hzz
    have HCZ := Lib.hid hcz
    clear hgz hxz hzz hcz
    simp [bodyPostS, results, Tryz.results168]
    exact ⟨HGZ.out, HXZ.out, HZZ.out, HCZ.out⟩
/-- What a frame keeps till a panic: where its results lie, its deferred calls. -/
def PKeep (g : Nat) (D : List Deferred) (a : Act) : Prop := a.tmps.getD 2 undef = .pointer (some ⟨g, 0, none⟩) ∧ a.tmps.getD 3 undef = .pointer (some ⟨g + 1, 0, none⟩) ∧ a.tmps.getD 4 undef = .pointer (some ⟨g + 1 + 1, 0, none⟩) ∧ a.defers = D
/-- The post of a function whose panics are caught. -/
def PFQ (g : Nat) (D : List Deferred) (F : List PanicEntry → World → Prop) (Q : Exit → Act → World → Prop) : Exit → Act → World → Prop := fun e a w => match e with
  | .panic c => F c w ∧ PKeep g D a
  | e => Q e a w
theorem wp_pfault {P : Program} {c : Code} {Q : Exit → Act → World → Prop} {a : Act} {w : World} (g : Nat) (D : List Deferred) (F : List PanicEntry → World → Prop) (h : c.wp P (PFQ g D F Q) a w) (hF : ∀ c a w, F c w → PKeep g D a → Q (.panic c) a w) : c.wp P Q a w :=
  wp_mono h fun e a w hq => by
    cases e with
    | panic c => exact hF c a w hq.1 hq.2
    | _ => exact hq
/-- How Parse ends. -/
def ParsedAt (w' : World) (v : PatV ⊕ Int) (e : Ending) : Prop := match v with
  | .inl p => ∃ sv cv, e = .returned (.tuple #[.agg #[sv, cv, .int .i64 p.within], .int .i64 0, .int .i64 0]) ∧ Lst pstepC w' sv p.steps ∧ Lst pcondC w' cv p.conds
  | .inr c => ∃ i : Int, e = .returned (.tuple #[.agg #[.slice none 0 0, .slice none 0 0, .int .i64 0], .int .i64 i, .int .i64 c])
/-- What holds of a panic of Parse's. -/
def ParseF (g : Nat) (v : PatV ⊕ Int) (w : World) (c : List PanicEntry) (w' : World) : Prop := ∃ i code C x z, c = [{ v := .iface 334 (.agg #[.int .i64 i, .int .i64 code]), recovered := false }] ∧ v = .inr code ∧ Blk w' g 242 C ∧ C.size = 3 ∧ Blk w' (g + 1) 3 #[x] ∧ Blk w' (g + 1 + 1) 30 #[z] ∧ Chg (fun _ => False) w w'
def parD (g : Nat) : List Deferred := [{ target := .fn (.func 168) #[.pointer (some ⟨g, 0, none⟩), .pointer (some ⟨g + 1, 0, none⟩), .pointer (some ⟨g + 1 + 1, 0, none⟩)], args := #[] }]
set_option maxRecDepth 100000 in
theorem parse_caught (v : PatV ⊕ Int) (w : World) (g : Nat) (hg : w.heap.size = g) (c : List PanicEntry) (a : Act) (w' : World) (h : ParseF g v w c w') (hk : PKeep g (parD g) a) : bodyPostD Tryz.prog Tryz.f108 (fun e w' => ParsedAt w' v e ∧ Chg (fun _ => False) w w') (.panic c) a w' := by
  obtain ⟨i, code, C, x, z, rfl, hed, hb, hC, hx, hz, hch⟩ := h
  obtain ⟨h2, h3, h4, h5⟩ := hk
  show Leaves Tryz.prog _ a.tmps _ a.defers _ w'
  rw [h5]
  refine leaves_cons (f := 168) (args := #[.pointer (some ⟨g, 0, none⟩), .pointer (some ⟨g + 1, 0, none⟩), .pointer (some ⟨g + 1 + 1, 0, none⟩)]) (by simp) (by simp [go_sem]) ?_
  refine (pd_catch g i code C x z [] w' hb hC hx hz).mono ?_
  rintro e u' w'' ⟨rfl, rfl, hb2, hx2, hz2, hc2⟩
  have y0 := hb2.cell 0
  have y1 := hb2.cell 1
  have y2 := hb2.cell 2
  have x0 := hx2.cell 0
  have z0 := hz2.cell 0
  simp at y0 y1 y2 x0 z0
  simp only [Leaves, settle]
  refine ⟨.tuple #[.agg #[.slice none 0 0, .slice none 0 0, .int .i64 0], .int .i64 i, .int .i64 code], ?_, ?_, ?_⟩
  · rw [Array.getD_eq_getD_getElem?] at h2 h3 h4
    simp [results, Tryz.results108, go_sem, h2, h3, h4, y0, y1, y2, x0, z0]
  · rw [hed]
    exact ⟨i, rfl⟩
  · exact hch.trans hc2 fun k hk h => by omega
set_option maxRecDepth 100000 in
set_option maxHeartbeats 4000000 in
theorem pa_parse (s : ByteArray) (w : World) : Calls Tryz.prog 108 #[.string s] w fun e w' => ParsedAt w' (parseP s.data.toList) e ∧ Chg (fun _ => False) w w' := by
  have hmf : ∀ (fn : Fn) (first cap : Array Value) (w : World), (Instr.makeFunc fn first cap).run Tryz.prog w = .ok (.func fn first cap) w := fun _ _ _ _ => rfl
  by_cases hs : 4096 < s.size
  · have hp : parseP s.data.toList = .inr 5 := by unfold parseP; rw [if_pos (by rw [pa_len]; exact hs)]
    rw [hp]
    clear hp
    have q : decide ((s.size : Int) > 4096) = true := by simp; omega
    go_enter_defers Tryz.func108, Tryz.ntmps108
    go_wp2_with fail
    show Leaves Tryz.prog _ _ _ _ .returning _
    simp only [Leaves, settle]
    exact ⟨.tuple #[.agg #[.slice none 0 0, .slice none 0 0, .int .i64 0], .int .i64 0, .int .i64 5], by simp [results, Tryz.results108, go_sem], ⟨0, rfl⟩, by ((repeat (first | exact Chg.refl _ _ | assumption | refine Chg.drewN ?_ _ | refine Chg.drew ?_ | refine Chg.alloc ?_ _ | refine Chg.setCell ?_ (by first | (simp; done) | (simp; omega) | (intro h; simp at h; omega)) _)))⟩
  · have hs : s.size ≤ 4096 := by omega
    have q : decide ((s.size : Int) > 4096) = false := by simp; omega
    obtain ⟨V, hV⟩ : ∃ V, parseP s.data.toList = V := ⟨_, rfl⟩
    have he := hV.symm
    unfold parseP at he
    rw [if_neg (by rw [pa_len]; omega)] at he
    rw [hV]
    clear hV
    obtain ⟨g, hg⟩ : ∃ g, w.heap.size = g := ⟨_, rfl⟩
    obtain ⟨w1, hw1⟩ : ∃ w1, w1 = (((w.alloc (.cells #[.slice none 0 0, .slice none 0 0, .int .i64 0] 242)).alloc (.cells #[.int .i64 0] 3)).alloc (.cells #[.int .i64 0] 30)).alloc (.cells #[.string s, .int .i64 0] 338) := ⟨_, rfl⟩
    have ho : Blk w1 g 242 #[.slice none 0 0, .slice none 0 0, .int .i64 0] := by rw [hw1, ← hg]; exact (((Blk.new _ _ _).alloc _).alloc _).alloc _
    have hx : Blk w1 (g + 1) 3 #[.int .i64 0] := by rw [hw1, ← hg]; exact ((Blk.new1 _ _ _ _).alloc _).alloc _
    have hz : Blk w1 (g + 1 + 1) 30 #[.int .i64 0] := by rw [hw1, ← hg]; exact (Blk.new2 _ _ _ _ _).alloc _
    obtain ⟨r, hr⟩ : ∃ r, g + 1 + 1 + 1 = r := ⟨_, rfl⟩
    have hR : PRd w1 r s 0 := by
      rw [hw1, ← hr, ← hg]
      have := Blk.new (((w.alloc (.cells #[.slice none 0 0, .slice none 0 0, .int .i64 0] 242)).alloc (.cells #[.int .i64 0] 3)).alloc (.cells #[.int .i64 0] 30)) 338 #[.string s, .int .i64 0]
      show Blk _ _ _ _
      simpa using this
    have hc : Chg (fun _ => False) w w1 := by rw [hw1]; ((repeat (first | exact Chg.refl _ _ | assumption | refine Chg.drewN ?_ _ | refine Chg.drew ?_ | refine Chg.alloc ?_ _ | refine Chg.setCell ?_ (by first | (simp; done) | (simp; omega) | (intro h; simp at h; omega)) _)))
    have HW1 := Lib.hid hw1
    have HO := Lib.hid ho
    have HX := Lib.hid hx
    have HZ := Lib.hid hz
    have HR := Lib.hid hR
    have HC := Lib.hid hc
    have HE := Lib.hid he
    have HG := Lib.hid hg
    have HR2 := Lib.hid hr
    clear hw1 ho hx hz hR hc he hg hr
    go_enter_defers Tryz.func108, Tryz.ntmps108
    refine wp_pfault g (parD g) (ParseF g V w) ?_ (fun c a w' h hk => parse_caught V w g HG.out c a w' h hk)
    go_upto_region 5 with fail
    rw [← HW1.out, HG.out, HR2.out]
    go_wp2_with fail
    refine (pa_pattern r s hs w1 HR.out).mono ?_
    intro e w2 h2
    have hrg : r ≠ g ∧ r ≠ g + 1 ∧ r ≠ g + 1 + 1 := by have := HR2.out; omega
    cases hv : patternP s.data.toList with
    | inr c =>
      rw [hv] at h2
      obtain ⟨⟨n, rfl⟩, h6⟩ := h2
      have he := HE.out
      rw [hv] at he
      have hgs := HG.out
      have hc6 := HC.out.trans h6 fun k hk e => by have : k = r := e; have := HR2.out; omega
      have ho6 := HO.out.chg h6 (fun e => hrg.1 e.symm)
      have hx6 := HX.out.chg h6 (fun e => hrg.2.1 e.symm)
      have hz6 := HZ.out.chg h6 (fun e => hrg.2.2 e.symm)
      have HE2 := Lib.hid he
      have HC6 := Lib.hid hc6
      have HO6 := Lib.hid ho6
      have HX6 := Lib.hid hx6
      have HZ6 := Lib.hid hz6
      clear he hc6 ho6 hx6 hz6
      clear hgs hrg hv h6
      go_wp2_with fail
      exact ⟨⟨n, c, _, _, _, rfl, HE2.out, HO6.out, rfl, HX6.out, HZ6.out, HC6.out⟩, rfl, rfl, rfl, rfl⟩
    | inl x =>
      obtain ⟨p, k⟩ := x
      rw [hv] at h2
      obtain ⟨sv, cv, rfl, hR3, hk, hs3, hc3, hso, hco, h6⟩ := h2
      have he := HE.out
      rw [hv] at he
      dsimp only at he
      have hc6 := HC.out.trans h6 fun k hk e => by have : k = r := e; have := HR2.out; have := HG.out; omega
      have ho6 := HO.out.chg h6 (fun e => hrg.1 e.symm)
      have hx6 := HX.out.chg h6 (fun e => hrg.2.1 e.symm)
      have hz6 := HZ.out.chg h6 (fun e => hrg.2.2 e.symm)
      have hgr : w.heap.size ≤ g := by have := HG.out; omega
      have hso2 : ∀ b, sv.ownBlock = some b → b ≠ g ∧ b ≠ g + 1 ∧ b ≠ g + 1 + 1 := fun b hb => by
        obtain ⟨cs, hB⟩ := hs3.typed hb
        exact ⟨hB.ne_ ho6 (by decide), hB.ne_ hx6 (by decide), hB.ne_ hz6 (by decide)⟩
      have hco2 : ∀ b, cv.ownBlock = some b → b ≠ g ∧ b ≠ g + 1 ∧ b ≠ g + 1 + 1 := fun b hb => by
        obtain ⟨cs, hB⟩ := hc3.typed hb
        exact ⟨hB.ne_ ho6 (by decide), hB.ne_ hx6 (by decide), hB.ne_ hz6 (by decide)⟩
      obtain ⟨sa, sn, sc, rfl⟩ := lst_sl pstepOk hs3
      obtain ⟨ca, cn, cc, rfl⟩ := lst_sl pcondOk hc3
      have y0 := ho6.cell 0
      have y1 := ho6.cell 1
      have y2 := ho6.cell 2
      simp at y0 y1 y2
      have yf0 := ho6.frozen 0
      have yf1 := ho6.frozen 1
      have yf2 := ho6.frozen 2
      obtain ⟨w3, hw3⟩ : ∃ w3 : World, w3 = ((w2.setCell ⟨g, 0, none⟩ (.slice sa sn sc)).setCell ⟨g, 1, none⟩ (.slice ca cn cc)).setCell ⟨g, 2, none⟩ (.int .i64 p.within) := ⟨_, rfl⟩
      have hcz : Chg (fun k => k = g) w2 w3 := by rw [hw3]; exact Chg.seto (Chg.seto (Chg.seto (Chg.refl _ _)))
      have ho7 : Blk w3 g 242 #[.slice sa sn sc, .slice ca cn cc, .int .i64 p.within] := by
        rw [hw3]
        have hz := ((ho6.set_ 0 (.slice sa sn sc)).set_ 1 (.slice ca cn cc)).set_ 2 (.int .i64 p.within)
        simpa using hz
      have hx7 := hx6.chg hcz (show ¬ g + 1 = g by omega)
      have hz7 := hz6.chg hcz (show ¬ g + 1 + 1 = g by omega)
      have hR7 := hR3.chg hcz hrg.1
      have hs7 := hs3.chg hcz fun b hb e => (hso2 b hb).1 e
      have hk7 := hc3.chg hcz fun b hb e => (hco2 b hb).1 e
      have hc7 := hc6.trans hcz fun k hk e => by have : k = g := e; omega
      have HE2 := Lib.hid he
      have HW3 := Lib.hid hw3
      have HSO2 := Lib.hid hso2
      have HCO2 := Lib.hid hco2
      clear he hw3 hso2 hco2
      go_upto_region 6 with fail
      rw [← HW3.out]
      clear y0 y1 y2 yf0 yf1 yf2 hv h6 hR3 hs3 hc3 hso hco ho6 hx6 hz6 hc6 hcz HR HO HX HZ
      have y1 := hR7.cell 1
      simp at y1
      by_cases hlt : k < s.size
      · have q2 : decide ((k : Int) < (s.size : Int)) = true := by simp; omega
        have he := HE2.out
        rw [if_pos (by rw [pa_len]; exact hlt)] at he
        have HE3 := Lib.hid he
        have HO7 := Lib.hid ho7
        have HX7 := Lib.hid hx7
        have HZ7 := Lib.hid hz7
        have HC7 := Lib.hid hc7
        clear he ho7 hx7 hz7 hc7
        clear hR7 hs7 hk7
        go_wp2_with fail
        refine (pa_fail _ _ _ _).mono ?_
        rintro e w4 ⟨rfl, rfl⟩
        go_wp2_with fail
        exact ⟨⟨_, _, _, _, _, rfl, HE3.out, HO7.out, rfl, HX7.out, HZ7.out, HC7.out⟩, rfl, rfl, rfl, rfl⟩
      · have q2 : decide ((k : Int) < (s.size : Int)) = false := by simp; omega
        have he := HE2.out
        rw [if_neg (by rw [pa_len]; exact hlt)] at he
        have y0 := ho7.cell 0
        have y1 := ho7.cell 1
        have y2 := ho7.cell 2
        simp at y0 y1 y2
        have yf0 := ho7.frozen 0
        have yf1 := ho7.frozen 1
        have yf2 := ho7.frozen 2
        have x0 := hx7.cell 0
        have xf0 := hx7.frozen 0
        have z0 := hz7.cell 0
        have zf0 := hz7.frozen 0
        have yr := hR7.cell 1
        simp at x0 z0 yr
        have HE3 := Lib.hid he
        have HO7 := Lib.hid ho7
        have HX7 := Lib.hid hx7
        have HZ7 := Lib.hid hz7
        have HC7 := Lib.hid hc7
        have HS7 := Lib.hid hs7
        have HK7 := Lib.hid hk7
        clear he ho7 hx7 hz7 hc7 hs7 hk7
        clear hR7
        go_wp2_with fail
        obtain ⟨wz, hwz⟩ : ∃ wz : World, wz = ((((w3.setCell ⟨g, 0, none⟩ (.slice sa sn sc)).setCell ⟨g, 1, none⟩ (.slice ca cn cc)).setCell ⟨g, 2, none⟩ (.int .i64 p.within)).setCell ⟨g + 1, 0, none⟩ (.int .i64 0)).setCell ⟨g + 1 + 1, 0, none⟩ (.int .i64 0) := ⟨_, rfl⟩
        have hoz : Blk wz g 242 #[.slice sa sn sc, .slice ca cn cc, .int .i64 p.within] := by
          rw [hwz]
          have hz := ((((HO7.out.set_ 0 (.slice sa sn sc)).set_ 1 (.slice ca cn cc)).set_ 2 (.int .i64 p.within)).far (p := ⟨g + 1, 0, none⟩) (by simp) (.int .i64 0)).far (p := ⟨g + 1 + 1, 0, none⟩) (by simp; omega) (.int .i64 0)
          simpa using hz
        have hxz : Blk wz (g + 1) 3 #[.int .i64 0] := by
          rw [hwz]
          have hz := ((((HX7.out.far (p := ⟨g, 0, none⟩) (by simp) (.slice sa sn sc)).far (p := ⟨g, 1, none⟩) (by simp) (.slice ca cn cc)).far (p := ⟨g, 2, none⟩) (by simp) (.int .i64 p.within)).set_ 0 (.int .i64 0)).far (p := ⟨g + 1 + 1, 0, none⟩) (by simp) (.int .i64 0)
          simpa using hz
        have hzz : Blk wz (g + 1 + 1) 30 #[.int .i64 0] := by
          rw [hwz]
          have hz := ((((HZ7.out.far (p := ⟨g, 0, none⟩) (by simp; omega) (.slice sa sn sc)).far (p := ⟨g, 1, none⟩) (by simp; omega) (.slice ca cn cc)).far (p := ⟨g, 2, none⟩) (by simp; omega) (.int .i64 p.within)).far (p := ⟨g + 1, 0, none⟩) (by simp) (.int .i64 0)).set_ 0 (.int .i64 0)
          simpa using hz
        have hcz2 : Chg (fun k => k = g ∨ k = g + 1 ∨ k = g + 1 + 1) w3 wz := by rw [hwz]; ((repeat (first | with_reducible exact Chg.refl _ _ | with_reducible assumption | with_reducible refine Chg.drewN ?_ _ | with_reducible refine Chg.drew ?_ | with_reducible refine Chg.alloc ?_ _ | with_reducible refine Chg.setCell ?_ (by first | (simp; done) | (simp; omega) | (intro h; simp at h; omega)) _)))
        have hsz := HS7.out.chg hcz2 fun b hb e => by
          obtain ⟨e1, e2, e3⟩ := HSO2.out b hb
          rcases e with e | e | e
          · exact e1 e
          · exact e2 e
          · exact e3 e
        have hkz := HK7.out.chg hcz2 fun b hb e => by
          obtain ⟨e1, e2, e3⟩ := HCO2.out b hb
          rcases e with e | e | e
          · exact e1 e
          · exact e2 e
          · exact e3 e
        have hcw := HC7.out.trans hcz2 fun k hk e => by omega
        rw [← hwz]
        show Leaves Tryz.prog _ _ _ _ .returning wz
        refine leaves_cons (f := 168) (args := #[.pointer (some ⟨g, 0, none⟩), .pointer (some ⟨g + 1, 0, none⟩), .pointer (some ⟨g + 1 + 1, 0, none⟩)]) (by simp) (by simp [go_sem]) ?_
        refine (pd_idle g wz).mono ?_
        rintro e u' w'' ⟨rfl, rfl, hc9⟩
        have ho9 := hoz.chg hc9 (by simp)
        have hx9 := hxz.chg hc9 (by simp)
        have hz9 := hzz.chg hc9 (by simp)
        have y0 := ho9.cell 0
        have y1 := ho9.cell 1
        have y2 := ho9.cell 2
        have x0 := hx9.cell 0
        have z0 := hz9.cell 0
        simp at y0 y1 y2 x0 z0
        simp only [Leaves, settle]
        refine ⟨.tuple #[.agg #[.slice sa sn sc, .slice ca cn cc, .int .i64 p.within], .int .i64 0, .int .i64 0], ?_, ?_, hcw.then hc9⟩
        · simp [results, Tryz.results108, go_sem, y0, y1, y2, x0, z0]
        · rw [HE3.out]
          exact ⟨_, _, rfl, hsz.same hc9, hkz.same hc9⟩
end Go.Proofs.YtjloddlkleileaaGreatDoor
