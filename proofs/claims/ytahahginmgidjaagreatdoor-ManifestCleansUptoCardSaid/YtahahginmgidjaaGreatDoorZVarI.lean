/-
  The edit that bytes are: Get, which catches a fault.
-/
import Derived.Test.YtahahginmgidjaaGreatDoorZVarH
import Derived.Defers
import Derived.Recover
import Derived.Laws.Pointers
namespace Go.Proofs.YtahahginmgidjaaGreatDoor
open Go.RowKit
set_option linter.unusedVariables false
set_option linter.unusedSimpArgs false

theorem ta_nil (w : World) : (Instr.typeAssert .nilIface 20 192 true).run Tryz.prog w = .ok (.tuple #[.int .i64 0, .bool false]) w := by kernel_rfl
theorem ta_fault (c : Int) (w : World) : (Instr.typeAssert (.iface 192 (.int .i64 c)) 20 192 true).run Tryz.prog w = .ok (.tuple #[.int .i64 c, .bool true]) w := by kernel_rfl
set_option maxRecDepth 100000 in
theorem get_idle (g : Nat) (w : World) :
    CallsD Tryz.prog 120 #[.pointer (some ⟨g, 0, none⟩), .pointer (some ⟨g + 1, 0, none⟩)] .returning w fun e u' w' => e = .returned (.tuple #[]) ∧ u' = .returning ∧ w' = w := by
  refine callsD_of_wpS Tryz.func120 rfl fun c₀ cs hu => ?_
  have h := ta_nil w
  apply wpS_seq
  apply wpS_region
  simp [wpOpsS, go_sem, recoverD, hu, Tryz.ntmps120, Exit.thenS, h]
  apply wpS_seq
  apply wpS_region
  simp [wpOpsS, go_sem, Tryz.ntmps120, Exit.thenS]
  refine wpS_cond (t := false) (by simp [Act.eval, Array.replicate]) ?_
  simp only [Bool.false_eq_true, if_false]
  refine wpS_of_wp (wp_skip ?_)
  cases c₀
  simp_all [bodyPostS, results, Tryz.results120]
set_option maxRecDepth 100000 in
theorem get_catch (g : Nat) (c : Int) (C : Array Value) (x : Value) (older : List PanicEntry) (w : World) (hg : Blk w g 57 C) (hcs : C.size = 5) (hx : Blk w (g + 1) 36 #[x]) :
    CallsD Tryz.prog 120 #[.pointer (some ⟨g, 0, none⟩), .pointer (some ⟨g + 1, 0, none⟩)] (.panicking ({ v := .iface 192 (.int .i64 c), recovered := false } :: older)) w fun e u' w' =>
      e = .returned (.tuple #[]) ∧ u' = .panicking ({ v := .iface 192 (.int .i64 c), recovered := true } :: older) ∧ Blk w' g 57 #[.slice none 0 0, .slice none 0 0, .int .i64 0, .int .i64 0, .int .i64 0] ∧ Blk w' (g + 1) 36 #[.int .i64 c] ∧ Chg (fun k => k = g ∨ k = g + 1) w w' := by
  refine callsD_of_wpS Tryz.func120 rfl fun c₀ cs hu => ?_
  have h := ta_fault c w
  apply wpS_seq
  apply wpS_region
  simp [wpOpsS, go_sem, recoverD, hu, Tryz.ntmps120, Exit.thenS, h]
  apply wpS_seq
  apply wpS_region
  simp [wpOpsS, go_sem, Tryz.ntmps120, Exit.thenS]
  refine wpS_cond (t := true) (by simp [Act.eval, Array.replicate]) ?_
  simp only [if_true]
  obtain ⟨c0, c1, c2, c3, c4, rfl⟩ : ∃ c0 c1 c2 c3 c4, C = #[c0, c1, c2, c3, c4] := by
    obtain ⟨l⟩ := C
    match l, hcs with
    | [a, b, c, d, e], _ => exact ⟨a, b, c, d, e, rfl⟩
  have y0 := hg.cell 0
  have y1 := hg.cell 1
  have y2 := hg.cell 2
  have y3 := hg.cell 3
  have y4 := hg.cell 4
  have f0 := hg.frozen 0
  have f1 := hg.frozen 1
  have f2 := hg.frozen 2
  have f3 := hg.frozen 3
  have f4 := hg.frozen 4
  have z0 := hx.cell 0
  have f5 := hx.frozen 0
  simp at y0 y1 y2 y3 y4 z0
  apply wpS_region
  simp [wpOpsS, go_sem, y0, y1, y2, y3, y4, f0, f1, f2, f3, f4, z0, f5, bodyPostS, results, Tryz.results120]
  refine ⟨?_, ?_, ?_⟩
  · have := (((((hg.set_ 0 (.slice none 0 0)).set_ 1 (.slice none 0 0)).set_ 2 (.int .i64 0)).set_ 3 (.int .i64 0)).set_ 4 (.int .i64 0)).far (p := ⟨g + 1, 0, none⟩) (by simp) (.int .i64 c)
    simpa using this
  · have := (((((hx.far (p := ⟨g, 0, none⟩) (by simp) (.slice none 0 0)).far (p := ⟨g, 1, none⟩) (by simp) (.slice none 0 0)).far (p := ⟨g, 2, none⟩) (by simp) (.int .i64 0)).far (p := ⟨g, 3, none⟩) (by simp) (.int .i64 0)).far (p := ⟨g, 4, none⟩) (by simp) (.int .i64 0)).set_ 0 (.int .i64 c)
    simpa using this
  · ((repeat (first | with_reducible exact Chg.refl _ _ | with_reducible assumption | with_reducible refine Chg.drewN ?_ _ | with_reducible refine Chg.drew ?_ | with_reducible refine Chg.alloc ?_ _ | with_reducible refine Chg.setCell ?_ (by first | (simp; done) | (simp; omega) | (intro h; simp at h; omega)) _)))
/-- What a frame keeps till a panic: where its results lie, its deferred calls. -/
def Keep (g : Nat) (D : List Deferred) (a : Act) : Prop := a.tmps.getD 2 undef = .pointer (some ⟨g, 0, none⟩) ∧ a.tmps.getD 3 undef = .pointer (some ⟨g + 1, 0, none⟩) ∧ a.defers = D
theorem Keep.put {g : Nat} {D : List Deferred} {a : Act} {k : Nat} {v : Value} (h2 : k ≠ 2) (h3 : k ≠ 3) (h : Keep g D (a.put (some k) v)) : Keep g D a := by
  obtain ⟨e2, e3, e4⟩ := h
  refine ⟨?_, ?_, e4⟩
  · rw [← e2]
    simp [Act.put, Array.getD_eq_getD_getElem?, Array.getElem?_setIfInBounds, h2]
  · rw [← e3]
    simp [Act.put, Array.getD_eq_getD_getElem?, Array.getElem?_setIfInBounds, h3]
/-- The post of a function whose panics are caught: at a panic, what holds of its chain and of the world, and of the frame. -/
def FQ (g : Nat) (D : List Deferred) (F : List PanicEntry → World → Prop) (Q : Exit → Act → World → Prop) : Exit → Act → World → Prop := fun e a w => match e with
  | .panic c => F c w ∧ Keep g D a
  | e => Q e a w
theorem wp_fault {P : Program} {c : Code} {Q : Exit → Act → World → Prop} {a : Act} {w : World} (g : Nat) (D : List Deferred) (F : List PanicEntry → World → Prop) (h : c.wp P (FQ g D F Q) a w) (hF : ∀ c a w, F c w → Keep g D a → Q (.panic c) a w) : c.wp P Q a w :=
  wp_mono h fun e a w hq => by
    cases e with
    | panic c => exact hF c a w hq.1 hq.2
    | _ => exact hq
/-! ### The edit that bytes are, in plain words -/
def dropsV (s : List UInt8) : Nat → Nat → List Int → (List Int × Nat) ⊕ Int
  | 0, k, acc => .inl (acc, k)
  | n + 1, k, acc => match getV s k with
    | .inl (f, j) => dropsV s n j (acc ++ [f])
    | .inr c => .inr c
def placeV (s : List UInt8) (k : Nat) : (PlaceV × Nat) ⊕ Int := match belowV s k 4 with
  | .inr c => .inr c
  | .inl (l, k1) => match getV s k1 with
    | .inr c => .inr c
    | .inl (f, k2) => match getV s k2 with
      | .inr c => .inr c
      | .inl (z, k3) => match textV s k3 with
        | .inr c => .inr c
        | .inl (lo, k4) => match textV s k4 with
          | .inr c => .inr c
          | .inl (hi, k5) => .inl (⟨l, ⟨f, z, ⟨lo.toArray⟩, ⟨hi.toArray⟩⟩⟩, k5)
def addsV (s : List UInt8) : Nat → Nat → List PlaceV → (List PlaceV × Nat) ⊕ Int
  | 0, k, acc => .inl (acc, k)
  | n + 1, k, acc => match placeV s k with
    | .inl (p, j) => addsV s n j (acc ++ [p])
    | .inr c => .inr c
section
variable (s : List UInt8) (log next seq : Int)
def ed7 (dr : List Int) (m k6 : Nat) (acc : List PlaceV) : EditV ⊕ Int := match addsV s m k6 acc with
  | .inl (ad, k7) => if k7 < s.length then .inr 4 else .inl ⟨ad, dr, log, next, seq⟩
  | .inr c => .inr c
def ed6 (dr : List Int) (k5 : Nat) : EditV ⊕ Int := match belowV s k5 4097 with
  | .inl (m, k6) => ed7 s log next seq dr m.toNat k6 []
  | .inr c => .inr c
def ed5 (n k4 : Nat) (acc : List Int) : EditV ⊕ Int := match dropsV s n k4 acc with
  | .inl (dr, k5) => ed6 s log next seq dr k5
  | .inr c => .inr c
def ed4 (k3 : Nat) : EditV ⊕ Int := match belowV s k3 4097 with
  | .inl (n, k4) => ed5 s log next seq n.toNat k4 []
  | .inr c => .inr c
def ed3 (k2 : Nat) : EditV ⊕ Int := match getV s k2 with
  | .inl (seq, k3) => ed4 s log next seq k3
  | .inr c => .inr c
def ed2 (k1 : Nat) : EditV ⊕ Int := match getV s k1 with
  | .inl (next, k2) => ed3 s log next k2
  | .inr c => .inr c
end
def editV (s : List UInt8) : EditV ⊕ Int := match getV s 0 with
  | .inl (log, k1) => ed2 s log k1
  | .inr c => .inr c
/-- How Get ends. -/
def EditAt (w' : World) (s : List UInt8) (e : Ending) : Prop := match editV s with
  | .inl E => ∃ av dv, e = .returned (.tuple #[.agg #[av, dv, .int .i64 E.log, .int .i64 E.next, .int .i64 E.seq], .int .i64 0]) ∧ Lst placeC w' av E.add ∧ Lst i64C w' dv E.drop
  | .inr c => c ≠ 0 ∧ e = .returned (.tuple #[.agg #[.slice none 0 0, .slice none 0 0, .int .i64 0, .int .i64 0, .int .i64 0], .int .i64 c])
/-- What holds of a panic of Get's. -/
def GetF (g : Nat) (s : List UInt8) (w : World) (c : List PanicEntry) (w' : World) : Prop := ∃ code C, c = [{ v := .iface 192 (.int .i64 code), recovered := false }] ∧ editV s = .inr code ∧ code ≠ 0 ∧ Blk w' g 57 C ∧ C.size = 5 ∧ Blk w' (g + 1) 36 #[.int .i64 0] ∧ Chg (fun _ => False) w w'
def getD (g : Nat) : List Deferred := [{ target := .fn (.func 120) #[.pointer (some ⟨g, 0, none⟩), .pointer (some ⟨g + 1, 0, none⟩)], args := #[] }]
set_option maxRecDepth 100000 in
theorem get_caught (s : List UInt8) (w : World) (g : Nat) (hg : w.heap.size = g) (c : List PanicEntry) (a : Act) (w' : World) (h : GetF g s w c w') (hk : Keep g (getD g) a) : bodyPostD Tryz.prog Tryz.f58 (fun e w' => EditAt w' s e ∧ Chg (fun _ => False) w w') (.panic c) a w' := by
  obtain ⟨code, C, rfl, hed, hc0, hb, hC, hx, hch⟩ := h
  obtain ⟨h2, h3, h4⟩ := hk
  show Leaves Tryz.prog _ a.tmps _ a.defers _ w'
  rw [h4]
  refine leaves_cons (f := 120) (args := #[.pointer (some ⟨g, 0, none⟩), .pointer (some ⟨g + 1, 0, none⟩)]) (by simp) (by simp [go_sem]) ?_
  refine (get_catch g code C _ [] w' hb hC hx).mono ?_
  rintro e u' w'' ⟨rfl, rfl, hb2, hx2, hc2⟩
  have y0 := hb2.cell 0
  have y1 := hb2.cell 1
  have y2 := hb2.cell 2
  have y3 := hb2.cell 3
  have y4 := hb2.cell 4
  have z0 := hx2.cell 0
  simp at y0 y1 y2 y3 y4 z0
  simp only [Leaves, settle]
  refine ⟨.tuple #[.agg #[.slice none 0 0, .slice none 0 0, .int .i64 0, .int .i64 0, .int .i64 0], .int .i64 code], ?_, ?_, ?_⟩
  · rw [Array.getD_eq_getD_getElem?] at h2 h3
    simp [results, Tryz.results58, go_sem, h2, h3, y0, y1, y2, y3, y4, z0]
  · unfold EditAt
    rw [hed]
    exact ⟨hc0, rfl⟩
  · exact hch.trans hc2 fun k hk h => by omega
theorem fq_put {g : Nat} {D : List Deferred} {F : List PanicEntry → World → Prop} {Q : Exit → Act → World → Prop} {k : Nat} {v : Value} (h2 : k ≠ 2) (h3 : k ≠ 3) (c : List PanicEntry) (a : Act) (w : World) (h : FQ g D F Q (.panic c) (a.put (some k) v) w) : FQ g D F Q (.panic c) a w := ⟨h.1, h.2.put h2 h3⟩
theorem addsV_step {s : List UInt8} {n k : Nat} {acc : List PlaceV} : addsV s (n + 1) k acc = match placeV s k with
    | .inl (p, j) => addsV s n j (acc ++ [p])
    | .inr c => .inr c := by rw [addsV]
theorem belowV_in {s : List UInt8} {k : Nat} {most n : Int} {j : Nat} (hk : k ≤ s.length) (h : belowV s k most = .inl (n, j)) : 0 ≤ n ∧ n < most ∧ j ≤ s.length := by
  unfold belowV at h
  split at h
  · rename_i n' j' hg'
    split at h
    · cases h
    · rename_i hb
      injection h with h
      injection h with e1 e2
      subst e1 e2
      have := (getV_le hk hg').2
      omega
  · cases h
theorem dropsV_step {s : List UInt8} {n k : Nat} {acc : List Int} : dropsV s (n + 1) k acc = match getV s k with
    | .inl (f, j) => dropsV s n j (acc ++ [f])
    | .inr c => .inr c := by rw [dropsV]
set_option maxRecDepth 100000 in
set_option maxHeartbeats 8000000 in
theorem ve_get (s : ByteArray) (hs : s.size ≤ 281474976710656) (w : World) : Calls Tryz.prog 58 #[.string s] w fun e w' => EditAt w' s.data.toList e ∧ Chg (fun _ => False) w w' := by
  have hmf : ∀ (fn : Fn) (first cap : Array Value) (w : World), (Instr.makeFunc fn first cap).run Tryz.prog w = .ok (.func fn first cap) w := fun _ _ _ _ => rfl
  obtain ⟨g, hg⟩ : ∃ g, w.heap.size = g := ⟨_, rfl⟩
  obtain ⟨L, hL⟩ : ∃ L, s.data.toList = L := ⟨_, rfl⟩
  have hLl : L.length = s.size := by rw [← hL, bs_len]
  obtain ⟨w1, hw1⟩ : ∃ w1, w1 = ((w.alloc (.cells #[.slice none 0 0, .slice none 0 0, .int .i64 0, .int .i64 0, .int .i64 0] 57)).alloc (.cells #[.int .i64 0] 36)).alloc (.cells #[.string s, .int .i64 0] 196) := ⟨_, rfl⟩
  have ho : Blk w1 g 57 #[.slice none 0 0, .slice none 0 0, .int .i64 0, .int .i64 0, .int .i64 0] := by rw [hw1, ← hg]; exact ((Blk.new _ _ _).alloc _).alloc _
  have hx : Blk w1 (g + 1) 36 #[.int .i64 0] := by rw [hw1, ← hg]; exact (Blk.new1 _ _ _ _).alloc _
  have hr : RdAt w1 (g + 1 + 1) s 0 := by unfold RdAt; rw [hw1, ← hg]; exact Blk.new2 _ _ _ _ _
  have hc : Chg (fun _ => False) w w1 := by rw [hw1]; ((repeat (first | exact Chg.refl _ _ | assumption | refine Chg.drewN ?_ _ | refine Chg.drew ?_ | refine Chg.alloc ?_ _ | refine Chg.setCell ?_ (by first | (simp; done) | (simp; omega) | (intro h; simp at h; omega)) _)))
  have hnum := fun (k : Nat) (hk : k ≤ s.size) W (hR : RdAt W (g + 1 + 1) s k) => ve_number (g + 1 + 1) s k hk hs W hR
  have hbel := fun (k : Nat) (m : Int) (hk : k ≤ s.size) W (hR : RdAt W (g + 1 + 1) s k) => ve_below (g + 1 + 1) s k m hk hs W hR
  have htxt := fun (k : Nat) (hk : k ≤ s.size) W (hR : RdAt W (g + 1 + 1) s k) => ve_text (g + 1 + 1) s k hk hs W hR
  rw [hL] at hnum hbel htxt
  rw [hL]
  have hed : editV L = editV L := rfl
  conv at hed => rhs; unfold editV
  have HW1 := Lib.hid hw1
  have HO := Lib.hid ho
  have HX := Lib.hid hx
  have HR := Lib.hid hr
  have HC := Lib.hid hc
  have HNUM := Lib.hid hnum
  have HBEL := Lib.hid hbel
  have HTXT := Lib.hid htxt
  have HED := Lib.hid hed
  have HG := Lib.hid hg
  have HLL := Lib.hid hLl
  clear hw1 ho hx hr hc hnum hbel htxt hed hLl hL
  go_enter_defers Tryz.func58, Tryz.ntmps58
  refine wp_fault g (getD g) (GetF g L w) ?_ (fun c a w' h hk => get_caught L w g HG.out c a w' h hk)
  go_upto_region 3 with fail
  rw [← HW1.out]
  go_wp2_with fail
  refine (HNUM.out 0 (by omega) w1 HR.out).mono ?_
  intro e w2 h
  cases hv : getV L 0 with
  | inr c =>
    rw [hv] at h
    obtain ⟨rfl, hc0, hc1⟩ := h
    have HED2 := Lib.hid (show editV L = .inr c by rw [HED.out, hv])
    go_wp2_with fail
    exact ⟨⟨c, _, rfl, HED2.out, hc0, HO.out.chg hc1 (by omega), rfl, HX.out.chg hc1 (by omega), HC.out.trans hc1 fun k hk h => by have := HG.out; omega⟩, rfl, rfl, rfl⟩
  | inl x =>
  obtain ⟨log, k1⟩ := x
  rw [hv] at h
  obtain ⟨rfl, hR, hc1⟩ := h
  have HED2 := Lib.hid (show editV L = ed2 L log k1 by rw [HED.out, hv])
  have hk1 := (getV_le (by rw [HLL.out]; omega) hv).2
  have hi1 := getV_in hv
  rw [HLL.out] at hk1
  have HO2 := Lib.hid (HO.out.chg hc1 (by omega))
  have HX2 := Lib.hid (HX.out.chg hc1 (by omega))
  have HC2 := Lib.hid (HC.out.trans hc1 fun k hk h => by have := HG.out; omega)
  have HR2 := Lib.hid hR
  clear HO HX HC HR hc1 hR HED
  have HO := HO2
  have HX := HX2
  have HC := HC2
  have HR := HR2
  have HED := HED2
  clear HO2 HX2 HC2 HR2 HED2
  clear hv
  go_wp2_with fail
  refine (HNUM.out k1 hk1 w2 HR.out).mono ?_
  intro e w3 h
  cases hv : getV L k1 with
  | inr c =>
    rw [hv] at h
    obtain ⟨rfl, hc0, hc1⟩ := h
    have HED2 := Lib.hid (show editV L = .inr c by rw [HED.out, ed2, hv])
    go_wp2_with fail
    exact ⟨⟨c, _, rfl, HED2.out, hc0, HO.out.chg hc1 (by omega), rfl, HX.out.chg hc1 (by omega), HC.out.trans hc1 fun k hk h => by have := HG.out; omega⟩, rfl, rfl, rfl⟩
  | inl x =>
  obtain ⟨next, k2⟩ := x
  rw [hv] at h
  obtain ⟨rfl, hR, hc1⟩ := h
  have HED2 := Lib.hid (show editV L = ed3 L log next k2 by rw [HED.out, ed2, hv])
  have hk2 := (getV_le (by rw [HLL.out]; omega) hv).2
  have hi2 := getV_in hv
  rw [HLL.out] at hk2
  have HO2 := Lib.hid (HO.out.chg hc1 (by omega))
  have HX2 := Lib.hid (HX.out.chg hc1 (by omega))
  have HC2 := Lib.hid (HC.out.trans hc1 fun k hk h => by have := HG.out; omega)
  have HR2 := Lib.hid hR
  clear HO HX HC HR hc1 hR HED
  have HO := HO2
  have HX := HX2
  have HC := HC2
  have HR := HR2
  have HED := HED2
  clear HO2 HX2 HC2 HR2 HED2
  clear hv
  go_wp2_with fail
  refine (HNUM.out k2 hk2 w3 HR.out).mono ?_
  intro e w4 h
  cases hv : getV L k2 with
  | inr c =>
    rw [hv] at h
    obtain ⟨rfl, hc0, hc1⟩ := h
    have HED2 := Lib.hid (show editV L = .inr c by rw [HED.out, ed3, hv])
    go_wp2_with fail
    exact ⟨⟨c, _, rfl, HED2.out, hc0, HO.out.chg hc1 (by omega), rfl, HX.out.chg hc1 (by omega), HC.out.trans hc1 fun k hk h => by have := HG.out; omega⟩, rfl, rfl, rfl⟩
  | inl x =>
  obtain ⟨seq, k3⟩ := x
  rw [hv] at h
  obtain ⟨rfl, hR, hc1⟩ := h
  have HED2 := Lib.hid (show editV L = ed4 L log next seq k3 by rw [HED.out, ed3, hv])
  have hk3 := (getV_le (by rw [HLL.out]; omega) hv).2
  have hi3 := getV_in hv
  rw [HLL.out] at hk3
  have HO2 := Lib.hid (HO.out.chg hc1 (by omega))
  have HX2 := Lib.hid (HX.out.chg hc1 (by omega))
  have HC2 := Lib.hid (HC.out.trans hc1 fun k hk h => by have := HG.out; omega)
  have HR2 := Lib.hid hR
  clear HO HX HC HR hc1 hR HED
  have HO := HO2
  have HX := HX2
  have HC := HC2
  have HR := HR2
  have HED := HED2
  clear HO2 HX2 HC2 HR2 HED2
  clear hv
  -- the three numbers are laid
  have y2 := HO.out.cell 2
  have y3 := HO.out.cell 3
  have y4 := HO.out.cell 4
  have f2 := HO.out.frozen 2
  have f3 := HO.out.frozen 3
  have f4 := HO.out.frozen 4
  simp at y2 y3 y4
  obtain ⟨w5, hw5⟩ : ∃ w5, w5 = ((w4.setCell ⟨g, 2, none⟩ (.int .i64 log)).setCell ⟨g, 3, none⟩ (.int .i64 next)).setCell ⟨g, 4, none⟩ (.int .i64 seq) := ⟨_, rfl⟩
  have ho5 : Blk w5 g 57 #[.slice none 0 0, .slice none 0 0, .int .i64 log, .int .i64 next, .int .i64 seq] := by
    rw [hw5]
    simpa using ((HO.out.set_ 2 (.int .i64 log)).set_ 3 (.int .i64 next)).set_ 4 (.int .i64 seq)
  have hc1 : Chg (fun k => k = g) w4 w5 := by rw [hw5]; ((repeat (first | with_reducible exact Chg.refl _ _ | with_reducible assumption | with_reducible refine Chg.drewN ?_ _ | with_reducible refine Chg.drew ?_ | with_reducible refine Chg.alloc ?_ _ | with_reducible refine Chg.setCell ?_ (by first | (simp; done) | (simp; omega) | (intro h; simp at h; omega)) _)))
  have hR : RdAt w5 (g + 1 + 1) s k3 := HR.out.chg hc1 (by omega)
  have hx5 := HX.out.chg hc1 (by omega)
  have HC5 := Lib.hid (HC.out.trans hc1 fun k hk h => by have := HG.out; omega)
  have HW5 := Lib.hid hw5
  go_upto_region 4 with fail
  rw [← HW5.out]
  clear y2 y3 y4 f2 f3 f4 HO HX HR HC hw5 hc1 HW5
  have HO := Lib.hid ho5
  have HX := Lib.hid hx5
  have HR := Lib.hid hR
  have HC := HC5
  clear ho5 hx5 hR HC5
  go_wp2_with fail
  refine (HBEL.out k3 4097 hk3 w5 HR.out).mono ?_
  intro e w6 h
  cases hv : belowV L k3 4097 with
  | inr c =>
    rw [hv] at h
    obtain ⟨rfl, hc0, hc1⟩ := h
    have HED2 := Lib.hid (show editV L = .inr c by rw [HED.out, ed4, hv])
    go_wp2_with fail
    exact ⟨⟨c, _, rfl, HED2.out, hc0, HO.out.chg hc1 (by omega), rfl, HX.out.chg hc1 (by omega), HC.out.trans hc1 fun k hk h => by have := HG.out; omega⟩, rfl, rfl, rfl⟩
  | inl x =>
  obtain ⟨n, k4⟩ := x
  rw [hv] at h
  obtain ⟨rfl, hR, hc1⟩ := h
  have HED2 := Lib.hid (show editV L = ed5 L log next seq n.toNat k4 [] by rw [HED.out, ed4, hv])
  have hnb : 0 ≤ n ∧ n < 4097 ∧ k4 ≤ s.size := by
    unfold belowV at hv
    split at hv
    · rename_i n' j hg'
      split at hv
      · cases hv
      · rename_i hb
        injection hv with hv
        injection hv with e1 e2
        subst e1 e2
        have := (getV_le (by rw [HLL.out]; omega) hg').2
        rw [HLL.out] at this
        omega
    · cases hv
  have HO2 := Lib.hid (HO.out.chg hc1 (by omega))
  have HX2 := Lib.hid (HX.out.chg hc1 (by omega))
  have HC2 := Lib.hid (HC.out.trans hc1 fun k hk h => by have := HG.out; omega)
  have HR2 := Lib.hid hR
  clear HO HX HC HR hc1 hR HED
  have HO := HO2
  have HX := HX2
  have HC := HC2
  have HR := HR2
  have HED := HED2
  clear HO2 HX2 HC2 HR2 HED2
  clear hv
  obtain ⟨N, rfl⟩ : ∃ N : Nat, n = (N : Int) := ⟨n.toNat, by omega⟩
  rw [Int.toNat_natCast] at HED
  obtain ⟨_, hnb, hk4⟩ := hnb
  go_wp2_with fail
  go_loopw [21] (fun i wr => ∃ (j k : Nat) (acc : List Int) (dv : Value), j ≤ N ∧ i = .int .i64 (j : Int) ∧ k ≤ s.size ∧ acc.length = j ∧ editV L = ed5 L log next seq (N - j) k acc ∧ Blk wr g 57 #[.slice none 0 0, dv, .int .i64 log, .int .i64 next, .int .i64 seq] ∧ Lst i64C wr dv acc ∧ (∀ b, dv.ownBlock = some b → w.heap.size ≤ b) ∧ Blk wr (g + 1) 36 #[.int .i64 0] ∧ RdAt wr (g + 1 + 1) s k ∧ Chg (fun _ => False) w wr) (fun i _ => N - (intOf i).toNat)
  case atStart => exact ⟨0, k4, [], _, by omega, rfl, hk4, rfl, HED.out, HO.out, Lst.nil _ _, by simp [Value.ownBlock], HX.out, HR.out, HC.out⟩
  case round =>
    obtain ⟨j, k, acc, dv, hj, rfl, hk, hacc, hed, ho, hl, hown, hx, hr, hcr⟩ := hrel
    obtain ⟨da, dcap, rfl, _⟩ := i64_form hl
    clear HO HX HR HC HED
    have HO := Lib.hid ho
    have HX := Lib.hid hx
    have HR := Lib.hid hr
    have HC := Lib.hid hcr
    have HED := Lib.hid hed
    have HL := Lib.hid hl
    have HOWN := Lib.hid hown
    obtain ⟨wq, rfl⟩ : ∃ wq : World, wq = wr := ⟨_, rfl⟩
    clear ho hx hr hcr hed hl hown
    rcases Nat.lt_or_ge j N with hjN | hjN
    · have hlt : (j : Int) < (N : Int) := by omega
      go_upto_region 6 with fail
      obtain ⟨wd, hwd⟩ : ∃ wd, wd = wq.drew := ⟨_, rfl⟩
      have HOd := Lib.hid (show Blk wd g 57 #[.slice none 0 0, .slice da j dcap, .int .i64 log, .int .i64 next, .int .i64 seq] by rw [hwd, ← hacc]; exact HO.out.drew)
      have HXd := Lib.hid (show Blk wd (g + 1) 36 #[.int .i64 0] by rw [hwd]; exact HX.out.drew)
      have HRd := Lib.hid (show RdAt wd (g + 1 + 1) s k by rw [hwd]; exact Blk.drew HR.out)
      have HCd := Lib.hid (show Chg (fun _ => False) w wd by rw [hwd]; exact HC.out.drew)
      have HLd := Lib.hid (show Lst i64C wd (.slice da j dcap) acc by rw [hwd, ← hacc]; exact HL.out.same (by ((repeat (first | exact Chg.refl _ _ | assumption | refine Chg.drewN ?_ _ | refine Chg.drew ?_ | refine Chg.alloc ?_ _ | refine Chg.setCell ?_ (by first | (simp; done) | (simp; omega) | (intro h; simp at h; omega)) _)))))
      rw [hacc] at HOWN
      refine wp_region_any (by kernel_rfl) ?_
      show wpAny _ _ _ _ _ _ _ wq.drew
      rw [← hwd]
      clear hwd HO HX HR HC HL
      have HO := HOd
      have HX := HXd
      have HR := HRd
      have HC := HCd
      have HL := HLd
      clear HOd HXd HRd HCd HLd
      have y1 := HO.out.cell 1
      simp at y1
      refine wpAny_take (i := 0) (v := .pointer (some ⟨g, 1, none⟩)) rfl (by kernel_rfl) (by kernel_rfl) (by kernel_rfl) (fun c a w h => fq_put (Q := fun _ _ _ => True) (by decide) (by decide) c a w h) (Or.inl ⟨by rfl, fun w => by go_simp⟩) ?_
      try simp only [Act.put, List.setIfInBounds_toArray, List.set_cons_zero, List.set_cons_succ]
      refine wpAny_take (i := 2) (v := .pointer (some ⟨g + 1 + 1, 0, none⟩)) rfl (by kernel_rfl) (by kernel_rfl) (by kernel_rfl) (fun c a w h => fq_put (Q := fun _ _ _ => True) (by decide) (by decide) c a w h) (Or.inl ⟨by rfl, fun w => by go_simp⟩) ?_
      try simp only [Act.put, List.setIfInBounds_toArray, List.set_cons_zero, List.set_cons_succ]
      refine wpAny_ready (rs := [1, 3]) (by kernel_rfl) (by simp) ?_
      refine AllReady.cons rfl (fun K hK => ?_) (AllReady.cons rfl (fun K hK => ?_) AllReady.nil)
      · skip
        go_simp
        refine hK _ _ ?_
        clear hK K
        try simp only [Act.put, List.setIfInBounds_toArray, List.set_cons_zero, List.set_cons_succ]
        refine wpAny_ready (rs := [3]) (by kernel_rfl) (by simp) ?_
        refine AllReady.cons rfl (fun K hK => ?_) AllReady.nil
        go_simp
        refine (HNUM.out k hk wd HR.out).mono ?_
        intro e w2 h
        cases hv : getV L k with
        | inr c =>
          rw [hv] at h
          obtain ⟨rfl, hc0, hc1⟩ := h
          obtain ⟨m, hm⟩ : ∃ m, N - j = m + 1 := ⟨N - j - 1, by omega⟩
          have HED2 := Lib.hid (show editV L = .inr c by rw [HED.out, ed5, hm, dropsV_step, hv])
          go_simp
          exact ⟨⟨c, _, rfl, HED2.out, hc0, HO.out.chg hc1 (by omega), rfl, HX.out.chg hc1 (by omega), HC.out.trans hc1 fun k hk h => by have := HG.out; omega⟩, rfl, rfl, rfl⟩
        | inl x =>
        obtain ⟨f, k'⟩ := x
        rw [hv] at h
        obtain ⟨rfl, hR, hc1⟩ := h
        have hf64 := getV_in hv
        obtain ⟨m, hm⟩ : ∃ m, N - j = m + 1 := ⟨N - j - 1, by omega⟩
        have hed2 : editV L = ed5 L log next seq (N - (j + 1)) k' (acc ++ [f]) := by
          have e : N - (j + 1) = m := by omega
          rw [HED.out, ed5, hm, dropsV_step, hv, e, ed5]
        have HEDN := Lib.hid hed2
        have hk' := (getV_le (by rw [HLL.out]; exact hk) hv).2
        rw [HLL.out] at hk'
        have ho2 := HO.out.chg hc1 (by omega)
        have hl2 : Lst i64C w2 (.slice da j dcap) acc := HL.out.chg hc1 fun b hb e => by
          obtain ⟨cs, hB⟩ := HL.out.typed hb
          exact hB.ne_ (show Blk wd (g + 1 + 1) _ _ from HR.out) (by decide) e
        have HO2 := Lib.hid ho2
        have HL2 := Lib.hid hl2
        have HX2 := Lib.hid (HX.out.chg hc1 (by omega))
        have HR2 := Lib.hid hR
        have HC2 := Lib.hid (HC.out.trans hc1 fun k hk h => by have := HG.out; omega)
        have y1 := ho2.cell 1
        simp at y1
        clear hv hed2 hm hR hc1 ho2 hl2
        dsimp only
        refine hK _ _ ?_
        clear hK K
        try simp only [Act.put, List.setIfInBounds_toArray, List.set_cons_zero, List.set_cons_succ]
        refine wpAny_ready (rs := [4]) (by kernel_rfl) (by simp) ?_
        refine AllReady.cons rfl (fun K hK => ?_) AllReady.nil
        go_simp
        obtain ⟨w3, hw3⟩ : ∃ w3, w3 = w2.alloc (.cells #[.int .i64 f] 2) := ⟨_, rfl⟩
        have hb3 : Blk w3 w2.heap.size 2 #[.int .i64 f] := by rw [hw3]; exact Blk.new _ _ _
        have hcb : Chg (fun _ => False) w2 w3 := by rw [hw3]; ((repeat (first | exact Chg.refl _ _ | assumption | refine Chg.drewN ?_ _ | refine Chg.drew ?_ | refine Chg.alloc ?_ _ | refine Chg.setCell ?_ (by first | (simp; done) | (simp; omega) | (intro h; simp at h; omega)) _)))
        have HB3 := Lib.hid hb3
        have HL3 := Lib.hid (HL2.out.same hcb)
        have HO3 := Lib.hid (HO2.out.chg hcb (by simp))
        have HX3 := Lib.hid (HX2.out.chg hcb (by simp))
        have HR3 := Lib.hid (show RdAt w3 (g + 1 + 1) s k' from Blk.chg HR2.out hcb (by simp))
        have HC3 := Lib.hid (HC2.out.then hcb)
        have y1 := HO3.out.cell 1
        simp at y1
        rw [← hw3]
        clear hw3 hb3 hcb
        refine hK _ _ ?_
        clear hK K
        try simp only [Act.put, List.setIfInBounds_toArray, List.set_cons_zero, List.set_cons_succ]
        refine wpAny_ready (rs := [5]) (by kernel_rfl) (by simp) ?_
        refine AllReady.cons rfl (fun K hK => ?_) AllReady.nil
        refine step_lst_app i64Ok _ (by rfl) _ _ (by rfl) acc (.slice da j dcap) f (by rfl) HL3.out w2.heap.size (by rfl) (by omega) HB3.out ?_
        intro v' w4 hl4 hc4 hk4
        have hne : ∀ b, (Value.slice da j dcap).ownBlock = some b → b ≠ g ∧ b ≠ g + 1 ∧ b ≠ g + 1 + 1 := fun b hb => by
          obtain ⟨cs, hB⟩ := HL3.out.typed hb
          exact ⟨hB.ne_ HO3.out (by decide), hB.ne_ HX3.out (by decide), hB.ne_ (show Blk _ (g + 1 + 1) _ _ from HR3.out) (by decide)⟩
        have ho4 := HO3.out.chg hc4 fun e => (hne g e).1 rfl
        have hx4 := HX3.out.chg hc4 fun e => (hne (g + 1) e).2.1 rfl
        have hr4 : RdAt w4 (g + 1 + 1) s k' := Blk.chg HR3.out hc4 fun e => (hne (g + 1 + 1) e).2.2 rfl
        have hcw4 : Chg (fun _ => False) w w4 := HC3.out.trans hc4 fun b hb e => by
          have := HOWN.out b e
          omega
        have hown4 : ∀ b, v'.ownBlock = some b → w.heap.size ≤ b := fun b hb => by
          rcases hk4 b hb with e | e
          · exact HOWN.out b e
          · have := HC3.out.size; omega
        obtain ⟨va, vc, rfl, _⟩ := i64_form hl4
        have y1 := ho4.cell 1
        have f1 := ho4.frozen 1
        simp at y1
        have HO4 := Lib.hid ho4
        have HX4 := Lib.hid hx4
        have HR4 := Lib.hid hr4
        have HC4 := Lib.hid hcw4
        have HL4 := Lib.hid hl4
        have HOWN4 := Lib.hid hown4
        clear ho4 hx4 hr4 hcw4 hl4 hown4 hne hc4 hk4
        refine hK _ _ ?_
        clear hK K
        try simp only [Act.put, List.setIfInBounds_toArray, List.set_cons_zero, List.set_cons_succ]
        refine wpAny_ready (rs := [6]) (by kernel_rfl) (by simp) ?_
        refine AllReady.cons rfl (fun K hK => ?_) AllReady.nil
        go_simp
        refine hK _ _ ?_
        clear hK K
        try simp only [Act.put, List.setIfInBounds_toArray, List.set_cons_zero, List.set_cons_succ]
        refine wpAny_ready (rs := [7]) (by kernel_rfl) (by simp) ?_
        refine AllReady.cons rfl (fun K hK => ?_) AllReady.nil
        go_simp
        obtain ⟨w5, hw5⟩ : ∃ w5, w5 = w4.setCell ⟨g, 1, none⟩ (.slice va (acc ++ [f]).length vc) := ⟨_, rfl⟩
        have ho5 : Blk w5 g 57 #[.slice none 0 0, .slice va (acc ++ [f]).length vc, .int .i64 log, .int .i64 next, .int .i64 seq] := by
          rw [hw5]
          simpa using HO4.out.set_ 1 (.slice va (acc ++ [f]).length vc)
        have hc5 : Chg (fun k => k = g) w4 w5 := by rw [hw5]; ((repeat (first | with_reducible exact Chg.refl _ _ | with_reducible assumption | with_reducible refine Chg.drewN ?_ _ | with_reducible refine Chg.drew ?_ | with_reducible refine Chg.alloc ?_ _ | with_reducible refine Chg.setCell ?_ (by first | (simp; done) | (simp; omega) | (intro h; simp at h; omega)) _)))
        have hl5 : Lst i64C w5 (.slice va (acc ++ [f]).length vc) (acc ++ [f]) := HL4.out.chg hc5 fun b hb e => by
          obtain ⟨cs, hB⟩ := HL4.out.typed hb
          exact hB.ne_ HO4.out (by decide) e
        have hll : (acc ++ [f]).length = j + 1 := by simp [hacc]
        rw [hll] at hw5 ho5 hl5
        rw [← hw5]
        have HO5 := Lib.hid ho5
        have HL5 := Lib.hid hl5
        have HX5 := Lib.hid (HX4.out.chg hc5 (by omega))
        have HR5 := Lib.hid (show RdAt w5 (g + 1 + 1) s k' from Blk.chg HR4.out hc5 (by omega))
        have HC5 := Lib.hid (HC4.out.trans hc5 fun k hk h => by have := HG.out; omega)
        rw [hll] at HOWN4
        clear hw5 ho5 hl5 hc5
        refine hK _ _ ?_
        clear hK K
        refine wpAny_done (by kernel_rfl) ?_ _
        go_wp2_with fail
        exact ⟨⟨j + 1, k', acc ++ [f], _, by omega, by first | rfl | (simp; done), hk', hll, HEDN.out, HO5.out, HL5.out, HOWN4.out, HX5.out, HR5.out, HC5.out⟩, by simp [intOf]; omega⟩
      · skip
        go_simp
        refine (HNUM.out k hk wd HR.out).mono ?_
        intro e w2 h
        cases hv : getV L k with
        | inr c =>
          rw [hv] at h
          obtain ⟨rfl, hc0, hc1⟩ := h
          obtain ⟨m, hm⟩ : ∃ m, N - j = m + 1 := ⟨N - j - 1, by omega⟩
          have HED2 := Lib.hid (show editV L = .inr c by rw [HED.out, ed5, hm, dropsV_step, hv])
          go_simp
          exact ⟨⟨c, _, rfl, HED2.out, hc0, HO.out.chg hc1 (by omega), rfl, HX.out.chg hc1 (by omega), HC.out.trans hc1 fun k hk h => by have := HG.out; omega⟩, rfl, rfl, rfl⟩
        | inl x =>
        obtain ⟨f, k'⟩ := x
        rw [hv] at h
        obtain ⟨rfl, hR, hc1⟩ := h
        have hf64 := getV_in hv
        obtain ⟨m, hm⟩ : ∃ m, N - j = m + 1 := ⟨N - j - 1, by omega⟩
        have hed2 : editV L = ed5 L log next seq (N - (j + 1)) k' (acc ++ [f]) := by
          have e : N - (j + 1) = m := by omega
          rw [HED.out, ed5, hm, dropsV_step, hv, e, ed5]
        have HEDN := Lib.hid hed2
        have hk' := (getV_le (by rw [HLL.out]; exact hk) hv).2
        rw [HLL.out] at hk'
        have ho2 := HO.out.chg hc1 (by omega)
        have hl2 : Lst i64C w2 (.slice da j dcap) acc := HL.out.chg hc1 fun b hb e => by
          obtain ⟨cs, hB⟩ := HL.out.typed hb
          exact hB.ne_ (show Blk wd (g + 1 + 1) _ _ from HR.out) (by decide) e
        have HO2 := Lib.hid ho2
        have HL2 := Lib.hid hl2
        have HX2 := Lib.hid (HX.out.chg hc1 (by omega))
        have HR2 := Lib.hid hR
        have HC2 := Lib.hid (HC.out.trans hc1 fun k hk h => by have := HG.out; omega)
        have y1 := ho2.cell 1
        simp at y1
        clear hv hed2 hm hR hc1 ho2 hl2
        dsimp only
        refine hK _ _ ?_
        clear hK K
        try simp only [Act.put, List.setIfInBounds_toArray, List.set_cons_zero, List.set_cons_succ]
        refine wpAny_ready (rs := [1, 4]) (by kernel_rfl) (by simp) ?_
        refine AllReady.cons rfl (fun K hK => ?_) (AllReady.cons rfl (fun K hK => ?_) AllReady.nil)
        · skip
          go_simp
          refine hK _ _ ?_
          clear hK K
          try simp only [Act.put, List.setIfInBounds_toArray, List.set_cons_zero, List.set_cons_succ]
          refine wpAny_ready (rs := [4]) (by kernel_rfl) (by simp) ?_
          refine AllReady.cons rfl (fun K hK => ?_) AllReady.nil
          go_simp
          obtain ⟨w3, hw3⟩ : ∃ w3, w3 = w2.alloc (.cells #[.int .i64 f] 2) := ⟨_, rfl⟩
          have hb3 : Blk w3 w2.heap.size 2 #[.int .i64 f] := by rw [hw3]; exact Blk.new _ _ _
          have hcb : Chg (fun _ => False) w2 w3 := by rw [hw3]; ((repeat (first | exact Chg.refl _ _ | assumption | refine Chg.drewN ?_ _ | refine Chg.drew ?_ | refine Chg.alloc ?_ _ | refine Chg.setCell ?_ (by first | (simp; done) | (simp; omega) | (intro h; simp at h; omega)) _)))
          have HB3 := Lib.hid hb3
          have HL3 := Lib.hid (HL2.out.same hcb)
          have HO3 := Lib.hid (HO2.out.chg hcb (by simp))
          have HX3 := Lib.hid (HX2.out.chg hcb (by simp))
          have HR3 := Lib.hid (show RdAt w3 (g + 1 + 1) s k' from Blk.chg HR2.out hcb (by simp))
          have HC3 := Lib.hid (HC2.out.then hcb)
          have y1 := HO3.out.cell 1
          simp at y1
          rw [← hw3]
          clear hw3 hb3 hcb
          refine hK _ _ ?_
          clear hK K
          try simp only [Act.put, List.setIfInBounds_toArray, List.set_cons_zero, List.set_cons_succ]
          refine wpAny_ready (rs := [5]) (by kernel_rfl) (by simp) ?_
          refine AllReady.cons rfl (fun K hK => ?_) AllReady.nil
          refine step_lst_app i64Ok _ (by rfl) _ _ (by rfl) acc (.slice da j dcap) f (by rfl) HL3.out w2.heap.size (by rfl) (by omega) HB3.out ?_
          intro v' w4 hl4 hc4 hk4
          have hne : ∀ b, (Value.slice da j dcap).ownBlock = some b → b ≠ g ∧ b ≠ g + 1 ∧ b ≠ g + 1 + 1 := fun b hb => by
            obtain ⟨cs, hB⟩ := HL3.out.typed hb
            exact ⟨hB.ne_ HO3.out (by decide), hB.ne_ HX3.out (by decide), hB.ne_ (show Blk _ (g + 1 + 1) _ _ from HR3.out) (by decide)⟩
          have ho4 := HO3.out.chg hc4 fun e => (hne g e).1 rfl
          have hx4 := HX3.out.chg hc4 fun e => (hne (g + 1) e).2.1 rfl
          have hr4 : RdAt w4 (g + 1 + 1) s k' := Blk.chg HR3.out hc4 fun e => (hne (g + 1 + 1) e).2.2 rfl
          have hcw4 : Chg (fun _ => False) w w4 := HC3.out.trans hc4 fun b hb e => by
            have := HOWN.out b e
            omega
          have hown4 : ∀ b, v'.ownBlock = some b → w.heap.size ≤ b := fun b hb => by
            rcases hk4 b hb with e | e
            · exact HOWN.out b e
            · have := HC3.out.size; omega
          obtain ⟨va, vc, rfl, _⟩ := i64_form hl4
          have y1 := ho4.cell 1
          have f1 := ho4.frozen 1
          simp at y1
          have HO4 := Lib.hid ho4
          have HX4 := Lib.hid hx4
          have HR4 := Lib.hid hr4
          have HC4 := Lib.hid hcw4
          have HL4 := Lib.hid hl4
          have HOWN4 := Lib.hid hown4
          clear ho4 hx4 hr4 hcw4 hl4 hown4 hne hc4 hk4
          refine hK _ _ ?_
          clear hK K
          try simp only [Act.put, List.setIfInBounds_toArray, List.set_cons_zero, List.set_cons_succ]
          refine wpAny_ready (rs := [6]) (by kernel_rfl) (by simp) ?_
          refine AllReady.cons rfl (fun K hK => ?_) AllReady.nil
          go_simp
          refine hK _ _ ?_
          clear hK K
          try simp only [Act.put, List.setIfInBounds_toArray, List.set_cons_zero, List.set_cons_succ]
          refine wpAny_ready (rs := [7]) (by kernel_rfl) (by simp) ?_
          refine AllReady.cons rfl (fun K hK => ?_) AllReady.nil
          go_simp
          obtain ⟨w5, hw5⟩ : ∃ w5, w5 = w4.setCell ⟨g, 1, none⟩ (.slice va (acc ++ [f]).length vc) := ⟨_, rfl⟩
          have ho5 : Blk w5 g 57 #[.slice none 0 0, .slice va (acc ++ [f]).length vc, .int .i64 log, .int .i64 next, .int .i64 seq] := by
            rw [hw5]
            simpa using HO4.out.set_ 1 (.slice va (acc ++ [f]).length vc)
          have hc5 : Chg (fun k => k = g) w4 w5 := by rw [hw5]; ((repeat (first | with_reducible exact Chg.refl _ _ | with_reducible assumption | with_reducible refine Chg.drewN ?_ _ | with_reducible refine Chg.drew ?_ | with_reducible refine Chg.alloc ?_ _ | with_reducible refine Chg.setCell ?_ (by first | (simp; done) | (simp; omega) | (intro h; simp at h; omega)) _)))
          have hl5 : Lst i64C w5 (.slice va (acc ++ [f]).length vc) (acc ++ [f]) := HL4.out.chg hc5 fun b hb e => by
            obtain ⟨cs, hB⟩ := HL4.out.typed hb
            exact hB.ne_ HO4.out (by decide) e
          have hll : (acc ++ [f]).length = j + 1 := by simp [hacc]
          rw [hll] at hw5 ho5 hl5
          rw [← hw5]
          have HO5 := Lib.hid ho5
          have HL5 := Lib.hid hl5
          have HX5 := Lib.hid (HX4.out.chg hc5 (by omega))
          have HR5 := Lib.hid (show RdAt w5 (g + 1 + 1) s k' from Blk.chg HR4.out hc5 (by omega))
          have HC5 := Lib.hid (HC4.out.trans hc5 fun k hk h => by have := HG.out; omega)
          rw [hll] at HOWN4
          clear hw5 ho5 hl5 hc5
          refine hK _ _ ?_
          clear hK K
          refine wpAny_done (by kernel_rfl) ?_ _
          go_wp2_with fail
          exact ⟨⟨j + 1, k', acc ++ [f], _, by omega, by first | rfl | (simp; done), hk', hll, HEDN.out, HO5.out, HL5.out, HOWN4.out, HX5.out, HR5.out, HC5.out⟩, by simp [intOf]; omega⟩
        · skip
          go_simp
          obtain ⟨w3, hw3⟩ : ∃ w3, w3 = w2.alloc (.cells #[.int .i64 f] 2) := ⟨_, rfl⟩
          have hb3 : Blk w3 w2.heap.size 2 #[.int .i64 f] := by rw [hw3]; exact Blk.new _ _ _
          have hcb : Chg (fun _ => False) w2 w3 := by rw [hw3]; ((repeat (first | exact Chg.refl _ _ | assumption | refine Chg.drewN ?_ _ | refine Chg.drew ?_ | refine Chg.alloc ?_ _ | refine Chg.setCell ?_ (by first | (simp; done) | (simp; omega) | (intro h; simp at h; omega)) _)))
          have HB3 := Lib.hid hb3
          have HL3 := Lib.hid (HL2.out.same hcb)
          have HO3 := Lib.hid (HO2.out.chg hcb (by simp))
          have HX3 := Lib.hid (HX2.out.chg hcb (by simp))
          have HR3 := Lib.hid (show RdAt w3 (g + 1 + 1) s k' from Blk.chg HR2.out hcb (by simp))
          have HC3 := Lib.hid (HC2.out.then hcb)
          have y1 := HO3.out.cell 1
          simp at y1
          rw [← hw3]
          clear hw3 hb3 hcb
          refine hK _ _ ?_
          clear hK K
          try simp only [Act.put, List.setIfInBounds_toArray, List.set_cons_zero, List.set_cons_succ]
          refine wpAny_ready (rs := [1]) (by kernel_rfl) (by simp) ?_
          refine AllReady.cons rfl (fun K hK => ?_) AllReady.nil
          go_simp
          refine hK _ _ ?_
          clear hK K
          try simp only [Act.put, List.setIfInBounds_toArray, List.set_cons_zero, List.set_cons_succ]
          refine wpAny_ready (rs := [5]) (by kernel_rfl) (by simp) ?_
          refine AllReady.cons rfl (fun K hK => ?_) AllReady.nil
          refine step_lst_app i64Ok _ (by rfl) _ _ (by rfl) acc (.slice da j dcap) f (by rfl) HL3.out w2.heap.size (by rfl) (by omega) HB3.out ?_
          intro v' w4 hl4 hc4 hk4
          have hne : ∀ b, (Value.slice da j dcap).ownBlock = some b → b ≠ g ∧ b ≠ g + 1 ∧ b ≠ g + 1 + 1 := fun b hb => by
            obtain ⟨cs, hB⟩ := HL3.out.typed hb
            exact ⟨hB.ne_ HO3.out (by decide), hB.ne_ HX3.out (by decide), hB.ne_ (show Blk _ (g + 1 + 1) _ _ from HR3.out) (by decide)⟩
          have ho4 := HO3.out.chg hc4 fun e => (hne g e).1 rfl
          have hx4 := HX3.out.chg hc4 fun e => (hne (g + 1) e).2.1 rfl
          have hr4 : RdAt w4 (g + 1 + 1) s k' := Blk.chg HR3.out hc4 fun e => (hne (g + 1 + 1) e).2.2 rfl
          have hcw4 : Chg (fun _ => False) w w4 := HC3.out.trans hc4 fun b hb e => by
            have := HOWN.out b e
            omega
          have hown4 : ∀ b, v'.ownBlock = some b → w.heap.size ≤ b := fun b hb => by
            rcases hk4 b hb with e | e
            · exact HOWN.out b e
            · have := HC3.out.size; omega
          obtain ⟨va, vc, rfl, _⟩ := i64_form hl4
          have y1 := ho4.cell 1
          have f1 := ho4.frozen 1
          simp at y1
          have HO4 := Lib.hid ho4
          have HX4 := Lib.hid hx4
          have HR4 := Lib.hid hr4
          have HC4 := Lib.hid hcw4
          have HL4 := Lib.hid hl4
          have HOWN4 := Lib.hid hown4
          clear ho4 hx4 hr4 hcw4 hl4 hown4 hne hc4 hk4
          refine hK _ _ ?_
          clear hK K
          try simp only [Act.put, List.setIfInBounds_toArray, List.set_cons_zero, List.set_cons_succ]
          refine wpAny_ready (rs := [6]) (by kernel_rfl) (by simp) ?_
          refine AllReady.cons rfl (fun K hK => ?_) AllReady.nil
          go_simp
          refine hK _ _ ?_
          clear hK K
          try simp only [Act.put, List.setIfInBounds_toArray, List.set_cons_zero, List.set_cons_succ]
          refine wpAny_ready (rs := [7]) (by kernel_rfl) (by simp) ?_
          refine AllReady.cons rfl (fun K hK => ?_) AllReady.nil
          go_simp
          obtain ⟨w5, hw5⟩ : ∃ w5, w5 = w4.setCell ⟨g, 1, none⟩ (.slice va (acc ++ [f]).length vc) := ⟨_, rfl⟩
          have ho5 : Blk w5 g 57 #[.slice none 0 0, .slice va (acc ++ [f]).length vc, .int .i64 log, .int .i64 next, .int .i64 seq] := by
            rw [hw5]
            simpa using HO4.out.set_ 1 (.slice va (acc ++ [f]).length vc)
          have hc5 : Chg (fun k => k = g) w4 w5 := by rw [hw5]; ((repeat (first | with_reducible exact Chg.refl _ _ | with_reducible assumption | with_reducible refine Chg.drewN ?_ _ | with_reducible refine Chg.drew ?_ | with_reducible refine Chg.alloc ?_ _ | with_reducible refine Chg.setCell ?_ (by first | (simp; done) | (simp; omega) | (intro h; simp at h; omega)) _)))
          have hl5 : Lst i64C w5 (.slice va (acc ++ [f]).length vc) (acc ++ [f]) := HL4.out.chg hc5 fun b hb e => by
            obtain ⟨cs, hB⟩ := HL4.out.typed hb
            exact hB.ne_ HO4.out (by decide) e
          have hll : (acc ++ [f]).length = j + 1 := by simp [hacc]
          rw [hll] at hw5 ho5 hl5
          rw [← hw5]
          have HO5 := Lib.hid ho5
          have HL5 := Lib.hid hl5
          have HX5 := Lib.hid (HX4.out.chg hc5 (by omega))
          have HR5 := Lib.hid (show RdAt w5 (g + 1 + 1) s k' from Blk.chg HR4.out hc5 (by omega))
          have HC5 := Lib.hid (HC4.out.trans hc5 fun k hk h => by have := HG.out; omega)
          rw [hll] at HOWN4
          clear hw5 ho5 hl5 hc5
          refine hK _ _ ?_
          clear hK K
          refine wpAny_done (by kernel_rfl) ?_ _
          go_wp2_with fail
          exact ⟨⟨j + 1, k', acc ++ [f], _, by omega, by first | rfl | (simp; done), hk', hll, HEDN.out, HO5.out, HL5.out, HOWN4.out, HX5.out, HR5.out, HC5.out⟩, by simp [intOf]; omega⟩
    · obtain rfl : j = N := by omega
      have hlt : ¬ (j : Int) < (j : Int) := by omega
      have HED2 := Lib.hid (show editV L = ed6 L log next seq acc k by rw [HED.out, Nat.sub_self, ed5, dropsV])
      clear HED
      have HED := HED2
      clear HED2
      go_wp2_with fail
      refine (HBEL.out k 4097 hk wq HR.out).mono ?_
      intro e w7 h
      cases hv : belowV L k 4097 with
      | inr c =>
        rw [hv] at h
        obtain ⟨rfl, hc0, hc1⟩ := h
        have HED2 := Lib.hid (show editV L = .inr c by rw [HED.out, ed6, hv])
        go_wp2_with fail
        exact ⟨⟨c, _, rfl, HED2.out, hc0, HO.out.chg hc1 (by omega), rfl, HX.out.chg hc1 (by omega), HC.out.trans hc1 fun k hk h => by have := HG.out; omega⟩, rfl, rfl, rfl⟩
      | inl x =>
      obtain ⟨n, k6⟩ := x
      rw [hv] at h
      obtain ⟨rfl, hR, hc1⟩ := h
      have HED2 := Lib.hid (show editV L = ed7 L log next seq acc n.toNat k6 [] by rw [HED.out, ed6, hv])
      obtain ⟨hn0, hnb, hk6⟩ := belowV_in (by rw [HLL.out]; exact hk) hv
      rw [HLL.out] at hk6
      have HDR2 := Lib.hid (show Lst i64C w7 (.slice da acc.length dcap) acc from HL.out.chg hc1 fun b hb e => by
        obtain ⟨cs, hB⟩ := HL.out.typed hb
        exact hB.ne_ (show Blk wq (g + 1 + 1) _ _ from HR.out) (by decide) e)
      have HO2 := Lib.hid (HO.out.chg hc1 (by omega))
      have HX2 := Lib.hid (HX.out.chg hc1 (by omega))
      have HC2 := Lib.hid (HC.out.trans hc1 fun k hk h => by have := HG.out; omega)
      have HR2 := Lib.hid hR
      clear HO HX HC HR hc1 hR HED
      have HO := HO2
      have HX := HX2
      have HC := HC2
      have HR := HR2
      have HED := HED2
      clear HO2 HX2 HC2 HR2 HED2
      clear hv HL HOWN hj hlt hk
      obtain ⟨dr, hdr⟩ : ∃ dr, dr = acc := ⟨_, rfl⟩
      rw [← hdr] at HED HO HDR2
      have hdl : dr.length = j := by rw [hdr]; exact hacc
      rw [← hacc, ← hdr]
      clear hacc hdr
      obtain ⟨M, rfl⟩ : ∃ M : Nat, n = (M : Int) := ⟨n.toNat, by omega⟩
      rw [Int.toNat_natCast] at HED
      go_wp2_with fail
      go_loopw [33] (fun i wr => ∃ (j k : Nat) (acc : List PlaceV) (av : Value), j ≤ M ∧ i = .int .i64 (j : Int) ∧ k ≤ s.size ∧ acc.length = j ∧ editV L = ed7 L log next seq dr (M - j) k acc ∧ Blk wr g 57 #[av, .slice da dr.length dcap, .int .i64 log, .int .i64 next, .int .i64 seq] ∧ Lst placeC wr av acc ∧ (∀ b, av.ownBlock = some b → w.heap.size ≤ b) ∧ Lst i64C wr (.slice da dr.length dcap) dr ∧ Blk wr (g + 1) 36 #[.int .i64 0] ∧ RdAt wr (g + 1 + 1) s k ∧ Chg (fun _ => False) w wr) (fun i _ => M - (intOf i).toNat)
      case atStart => exact ⟨0, k6, [], _, by omega, rfl, hk6, rfl, HED.out, HO.out, Lst.nil _ _, by simp [Value.ownBlock], HDR2.out, HX.out, HR.out, HC.out⟩
      case round =>
        obtain ⟨j, k, acc, av, hj, rfl, hk, hacc, hed, ho, hl, hown, hd, hx, hr, hcr⟩ := hrel
        obtain ⟨aa, acap, rfl, _⟩ := place_form hl
        clear HO HX HR HC HED HDR2
        rw [hacc] at ho hl hown
        have HO := Lib.hid ho
        have HX := Lib.hid hx
        have HR := Lib.hid hr
        have HC := Lib.hid hcr
        have HED := Lib.hid hed
        have HL := Lib.hid hl
        have HOWN := Lib.hid hown
        have HDR := Lib.hid hd
        obtain ⟨wq, rfl⟩ : ∃ wq : World, wq = wr := ⟨_, rfl⟩
        clear ho hx hr hcr hed hl hown hd
        rcases Nat.lt_or_ge j M with hjM | hjM
        · have hlt : (j : Int) < (M : Int) := by omega
          obtain ⟨m, hm⟩ : ∃ m, M - j = m + 1 := ⟨M - j - 1, by omega⟩
          go_wp2_with fail
          refine (HBEL.out k 4 hk wq HR.out).mono ?_
          intro e wl h
          cases hvl : belowV L k 4 with
          | inr c =>
            rw [hvl] at h
            obtain ⟨rfl, hc0, hc1⟩ := h
            have HED2 := Lib.hid (show editV L = .inr c by rw [HED.out, ed7, hm, addsV_step]; unfold placeV; rw [hvl])
            go_wp2_with fail
            exact ⟨⟨c, _, rfl, HED2.out, hc0, HO.out.chg hc1 (by omega), rfl, HX.out.chg hc1 (by omega), HC.out.trans hc1 fun k hk h => by have := HG.out; omega⟩, rfl, rfl, rfl⟩
          | inl x =>
          obtain ⟨l, k1⟩ := x
          rw [hvl] at h
          obtain ⟨rfl, hR, hc1⟩ := h
          obtain ⟨hl0, hl4, hk1'⟩ := belowV_in (by rw [HLL.out]; exact hk) hvl
          rw [HLL.out] at hk1'
          have HL2 := Lib.hid (show Lst placeC wl (.slice aa j acap) acc from HL.out.chg hc1 fun b hb e => by
            obtain ⟨cs, hB⟩ := HL.out.typed hb
            exact hB.ne_ (show Blk wq (g + 1 + 1) _ _ from HR.out) (by decide) e)
          have HDR2 := Lib.hid (show Lst i64C wl (.slice da dr.length dcap) dr from HDR.out.chg hc1 fun b hb e => by
            obtain ⟨cs, hB⟩ := HDR.out.typed hb
            exact hB.ne_ (show Blk wq (g + 1 + 1) _ _ from HR.out) (by decide) e)
          have HED2 := HED
          have HO2 := Lib.hid (HO.out.chg hc1 (by omega))
          have HX2 := Lib.hid (HX.out.chg hc1 (by omega))
          have HC2 := Lib.hid (HC.out.trans hc1 fun k hk h => by have := HG.out; omega)
          have HR2 := Lib.hid hR
          clear HO HX HC HR hc1 hR HED
          have HO := HO2
          have HX := HX2
          have HC := HC2
          have HR := HR2
          have HED := HED2
          clear HO2 HX2 HC2 HR2 HED2
          clear HL HDR
          go_upto_region 11 with fail
          obtain ⟨wd, hwd⟩ : ∃ wd, wd = wl.drew := ⟨_, rfl⟩
          have HOd := Lib.hid (show Blk wd g 57 #[.slice aa j acap, .slice da dr.length dcap, .int .i64 log, .int .i64 next, .int .i64 seq] by rw [hwd]; exact HO.out.drew)
          have HXd := Lib.hid (show Blk wd (g + 1) 36 #[.int .i64 0] by rw [hwd]; exact HX.out.drew)
          have HRd := Lib.hid (show RdAt wd (g + 1 + 1) s k1 by rw [hwd]; exact Blk.drew HR.out)
          have HCd := Lib.hid (show Chg (fun _ => False) w wd by rw [hwd]; exact HC.out.drew)
          have HLd := Lib.hid (show Lst placeC wd (.slice aa j acap) acc by rw [hwd]; exact HL2.out.same (by ((repeat (first | exact Chg.refl _ _ | assumption | refine Chg.drewN ?_ _ | refine Chg.drew ?_ | refine Chg.alloc ?_ _ | refine Chg.setCell ?_ (by first | (simp; done) | (simp; omega) | (intro h; simp at h; omega)) _)))))
          have HDRd := Lib.hid (show Lst i64C wd (.slice da dr.length dcap) dr by rw [hwd]; exact HDR2.out.same (by ((repeat (first | exact Chg.refl _ _ | assumption | refine Chg.drewN ?_ _ | refine Chg.drew ?_ | refine Chg.alloc ?_ _ | refine Chg.setCell ?_ (by first | (simp; done) | (simp; omega) | (intro h; simp at h; omega)) _)))))
          refine wp_region_any (by kernel_rfl) ?_
          show wpAny _ _ _ _ _ _ _ wl.drew
          rw [← hwd]
          clear hwd HO HX HR HC HL2 HDR2
          have HO := HOd
          have HX := HXd
          have HR := HRd
          have HC := HCd
          have HL := HLd
          have HDR := HDRd
          clear HOd HXd HRd HCd HLd HDRd
          have y0 := HO.out.cell 0
          simp at y0
          refine wpAny_take (i := 0) (v := .pointer (some ⟨g, 0, none⟩)) rfl (by kernel_rfl) (by kernel_rfl) (by kernel_rfl) (fun c a w h => fq_put (Q := fun _ _ _ => True) (by decide) (by decide) c a w h) (Or.inl ⟨by rfl, fun w => by go_simp⟩) ?_
          try simp only [Act.put, List.setIfInBounds_toArray, List.set_cons_zero, List.set_cons_succ]
          refine wpAny_take (i := 2) (v := .int .i64 l) rfl (by kernel_rfl) (by kernel_rfl) (by kernel_rfl) (fun c a w h => fq_put (Q := fun _ _ _ => True) (by decide) (by decide) c a w h) (Or.inl ⟨by rfl, fun w => by go_simp⟩) ?_
          try simp only [Act.put, List.setIfInBounds_toArray, List.set_cons_zero, List.set_cons_succ]
          refine wpAny_take (i := 3) (v := .pointer (some ⟨g + 1 + 1, 0, none⟩)) rfl (by kernel_rfl) (by kernel_rfl) (by kernel_rfl) (fun c a w h => fq_put (Q := fun _ _ _ => True) (by decide) (by decide) c a w h) (Or.inl ⟨by rfl, fun w => by go_simp⟩) ?_
          try simp only [Act.put, List.setIfInBounds_toArray, List.set_cons_zero, List.set_cons_succ]
          refine wpAny_take (i := 5) (v := .pointer (some ⟨g + 1 + 1, 0, none⟩)) rfl (by kernel_rfl) (by kernel_rfl) (by kernel_rfl) (fun c a w h => fq_put (Q := fun _ _ _ => True) (by decide) (by decide) c a w h) (Or.inl ⟨by rfl, fun w => by go_simp⟩) ?_
          try simp only [Act.put, List.setIfInBounds_toArray, List.set_cons_zero, List.set_cons_succ]
          refine wpAny_take (i := 7) (v := .pointer (some ⟨g + 1 + 1, 0, none⟩)) rfl (by kernel_rfl) (by kernel_rfl) (by kernel_rfl) (fun c a w h => fq_put (Q := fun _ _ _ => True) (by decide) (by decide) c a w h) (Or.inl ⟨by rfl, fun w => by go_simp⟩) ?_
          try simp only [Act.put, List.setIfInBounds_toArray, List.set_cons_zero, List.set_cons_succ]
          refine wpAny_take (i := 9) (v := .pointer (some ⟨g + 1 + 1, 0, none⟩)) rfl (by kernel_rfl) (by kernel_rfl) (by kernel_rfl) (fun c a w h => fq_put (Q := fun _ _ _ => True) (by decide) (by decide) c a w h) (Or.inl ⟨by rfl, fun w => by go_simp⟩) ?_
          try simp only [Act.put, List.setIfInBounds_toArray, List.set_cons_zero, List.set_cons_succ]
          refine wpAny_ready (rs := [1, 4]) (by kernel_rfl) (by simp) ?_
          refine AllReady.cons rfl (fun K hK => ?_) (AllReady.cons rfl (fun K hK => ?_) AllReady.nil)
          · skip
            go_simp
            refine hK _ _ ?_
            clear hK K
            try simp only [Act.put, List.setIfInBounds_toArray, List.set_cons_zero, List.set_cons_succ]
            refine wpAny_ready (rs := [4]) (by kernel_rfl) (by simp) ?_
            refine AllReady.cons rfl (fun K hK => ?_) AllReady.nil
            go_simp
            refine (HNUM.out k1 (by omega) wd HR.out).mono ?_
            intro e wa h
            cases hvCA : getV L k1 with
            | inr c =>
              rw [hvCA] at h
              obtain ⟨rfl, hc0, hc1⟩ := h
              have HED2 := Lib.hid (show editV L = .inr c by rw [HED.out, ed7, hm, addsV_step]; unfold placeV; rw [hvl]; simp only; rw [hvCA])
              have HO := HO
              have HX := HX
              have HC := HC
              go_simp
              exact ⟨⟨c, _, rfl, HED2.out, hc0, HO.out.chg hc1 (by omega), rfl, HX.out.chg hc1 (by omega), HC.out.trans hc1 fun k hk h => by have := HG.out; omega⟩, rfl, rfl, rfl⟩
            | inl x =>
            obtain ⟨f, k2⟩ := x
            rw [hvCA] at h
            obtain ⟨rfl, hR, hc1⟩ := h
            have hlCA := (getV_le (by rw [HLL.out]; omega) hvCA).2
            rw [HLL.out] at hlCA
            have HOCA := Lib.hid (HO.out.chg hc1 (by omega))
            have HLCA := Lib.hid (HL.out.chg hc1 fun b hb e => by
              obtain ⟨cs, hB⟩ := HL.out.typed hb
              exact hB.ne_ (show Blk wd (g + 1 + 1) _ _ from HR.out) (by decide) e)
            have HXCA := Lib.hid (HX.out.chg hc1 (by omega))
            have HRCA := Lib.hid hR
            have HCCA := Lib.hid (HC.out.trans hc1 fun k hk h => by have := HG.out; omega)
            have HDCA := Lib.hid (hc1)
            have y0 := HOCA.out.cell 0
            simp at y0
            clear hR hc1
            dsimp only
            refine hK _ _ ?_
            clear hK K
            try simp only [Act.put, List.setIfInBounds_toArray, List.set_cons_zero, List.set_cons_succ]
            refine wpAny_ready (rs := [6]) (by kernel_rfl) (by simp) ?_
            refine AllReady.cons rfl (fun K hK => ?_) AllReady.nil
            go_simp
            refine (HNUM.out k2 (by omega) wa HRCA.out).mono ?_
            intro e wb h
            cases hvCB : getV L k2 with
            | inr c =>
              rw [hvCB] at h
              obtain ⟨rfl, hc0, hc1⟩ := h
              have HED2 := Lib.hid (show editV L = .inr c by rw [HED.out, ed7, hm, addsV_step]; unfold placeV; rw [hvl]; simp only; rw [hvCA]; simp only; rw [hvCB])
              have HO := HOCA
              have HX := HXCA
              have HC := HCCA
              go_simp
              exact ⟨⟨c, _, rfl, HED2.out, hc0, HO.out.chg hc1 (by omega), rfl, HX.out.chg hc1 (by omega), HC.out.trans hc1 fun k hk h => by have := HG.out; omega⟩, rfl, rfl, rfl⟩
            | inl x =>
            obtain ⟨z, k3⟩ := x
            rw [hvCB] at h
            obtain ⟨rfl, hR, hc1⟩ := h
            have hlCB := (getV_le (by rw [HLL.out]; omega) hvCB).2
            rw [HLL.out] at hlCB
            have HOCB := Lib.hid (HOCA.out.chg hc1 (by omega))
            have HLCB := Lib.hid (HLCA.out.chg hc1 fun b hb e => by
              obtain ⟨cs, hB⟩ := HLCA.out.typed hb
              exact hB.ne_ (show Blk wa (g + 1 + 1) _ _ from HRCA.out) (by decide) e)
            have HXCB := Lib.hid (HXCA.out.chg hc1 (by omega))
            have HRCB := Lib.hid hR
            have HCCB := Lib.hid (HCCA.out.trans hc1 fun k hk h => by have := HG.out; omega)
            have HDCB := Lib.hid (HDCA.out.then hc1)
            have y0 := HOCB.out.cell 0
            simp at y0
            clear hR hc1
            dsimp only
            refine hK _ _ ?_
            clear hK K
            try simp only [Act.put, List.setIfInBounds_toArray, List.set_cons_zero, List.set_cons_succ]
            refine wpAny_ready (rs := [8]) (by kernel_rfl) (by simp) ?_
            refine AllReady.cons rfl (fun K hK => ?_) AllReady.nil
            go_simp
            refine (HTXT.out k3 (by omega) wb HRCB.out).mono ?_
            intro e wc h
            cases hvCC : textV L k3 with
            | inr c =>
              rw [hvCC] at h
              obtain ⟨rfl, hc0, hc1⟩ := h
              have HED2 := Lib.hid (show editV L = .inr c by rw [HED.out, ed7, hm, addsV_step]; unfold placeV; rw [hvl]; simp only; rw [hvCA]; simp only; rw [hvCB]; simp only; rw [hvCC])
              have HO := HOCB
              have HX := HXCB
              have HC := HCCB
              go_simp
              exact ⟨⟨c, _, rfl, HED2.out, hc0, HO.out.chg hc1 (by omega), rfl, HX.out.chg hc1 (by omega), HC.out.trans hc1 fun k hk h => by have := HG.out; omega⟩, rfl, rfl, rfl⟩
            | inl x =>
            obtain ⟨lo, k4⟩ := x
            rw [hvCC] at h
            obtain ⟨rfl, hR, hc1⟩ := h
            have hlCC := (textV_le (by rw [HLL.out]; omega) hvCC).2.1
            rw [HLL.out] at hlCC
            have HOCC := Lib.hid (HOCB.out.chg hc1 (by omega))
            have HLCC := Lib.hid (HLCB.out.chg hc1 fun b hb e => by
              obtain ⟨cs, hB⟩ := HLCB.out.typed hb
              exact hB.ne_ (show Blk wb (g + 1 + 1) _ _ from HRCB.out) (by decide) e)
            have HXCC := Lib.hid (HXCB.out.chg hc1 (by omega))
            have HRCC := Lib.hid hR
            have HCCC := Lib.hid (HCCB.out.trans hc1 fun k hk h => by have := HG.out; omega)
            have HDCC := Lib.hid (HDCB.out.then hc1)
            have y0 := HOCC.out.cell 0
            simp at y0
            clear hR hc1
            dsimp only
            refine hK _ _ ?_
            clear hK K
            try simp only [Act.put, List.setIfInBounds_toArray, List.set_cons_zero, List.set_cons_succ]
            refine wpAny_ready (rs := [10]) (by kernel_rfl) (by simp) ?_
            refine AllReady.cons rfl (fun K hK => ?_) AllReady.nil
            go_simp
            refine (HTXT.out k4 (by omega) wc HRCC.out).mono ?_
            intro e we h
            cases hvCD : textV L k4 with
            | inr c =>
              rw [hvCD] at h
              obtain ⟨rfl, hc0, hc1⟩ := h
              have HED2 := Lib.hid (show editV L = .inr c by rw [HED.out, ed7, hm, addsV_step]; unfold placeV; rw [hvl]; simp only; rw [hvCA]; simp only; rw [hvCB]; simp only; rw [hvCC]; simp only; rw [hvCD])
              have HO := HOCC
              have HX := HXCC
              have HC := HCCC
              go_simp
              exact ⟨⟨c, _, rfl, HED2.out, hc0, HO.out.chg hc1 (by omega), rfl, HX.out.chg hc1 (by omega), HC.out.trans hc1 fun k hk h => by have := HG.out; omega⟩, rfl, rfl, rfl⟩
            | inl x =>
            obtain ⟨hi, k5⟩ := x
            rw [hvCD] at h
            obtain ⟨rfl, hR, hc1⟩ := h
            have hlCD := (textV_le (by rw [HLL.out]; omega) hvCD).2.1
            rw [HLL.out] at hlCD
            have HOCD := Lib.hid (HOCC.out.chg hc1 (by omega))
            have HLCD := Lib.hid (HLCC.out.chg hc1 fun b hb e => by
              obtain ⟨cs, hB⟩ := HLCC.out.typed hb
              exact hB.ne_ (show Blk wc (g + 1 + 1) _ _ from HRCC.out) (by decide) e)
            have HXCD := Lib.hid (HXCC.out.chg hc1 (by omega))
            have HRCD := Lib.hid hR
            have HCCD := Lib.hid (HCCC.out.trans hc1 fun k hk h => by have := HG.out; omega)
            have HDCD := Lib.hid (HDCC.out.then hc1)
            have y0 := HOCD.out.cell 0
            simp at y0
            clear hR hc1
            dsimp only
            refine hK _ _ ?_
            clear hK K
            try simp only [Act.put, List.setIfInBounds_toArray, List.set_cons_zero, List.set_cons_succ]
            refine wpAny_take (i := 11) (v := .agg #[.int .i64 f, .int .i64 z, .string ⟨lo.toArray⟩, .string ⟨hi.toArray⟩]) rfl (by kernel_rfl) (by kernel_rfl) (by kernel_rfl) (fun c a w h => fq_put (Q := fun _ _ _ => True) (by decide) (by decide) c a w h) (Or.inl ⟨by rfl, fun w => by go_simp⟩) ?_
            try simp only [Act.put, List.setIfInBounds_toArray, List.set_cons_zero, List.set_cons_succ]
            refine wpAny_take (i := 12) (v := .agg #[.int .i64 l, .int .i64 f, .int .i64 z, .string ⟨lo.toArray⟩, .string ⟨hi.toArray⟩]) rfl (by kernel_rfl) (by kernel_rfl) (by kernel_rfl) (fun c a w h => fq_put (Q := fun _ _ _ => True) (by decide) (by decide) c a w h) (Or.inl ⟨by rfl, fun w => by go_simp⟩) ?_
            try simp only [Act.put, List.setIfInBounds_toArray, List.set_cons_zero, List.set_cons_succ]
            refine wpAny_ready (rs := [13]) (by kernel_rfl) (by simp) ?_
            refine AllReady.cons rfl (fun K hK => ?_) AllReady.nil
            go_simp
            obtain ⟨w3, hw3⟩ : ∃ w3, w3 = we.alloc (.cells #[.int .i64 l, .int .i64 f, .int .i64 z, .string ⟨lo.toArray⟩, .string ⟨hi.toArray⟩] 132) := ⟨_, rfl⟩
            have hb3 : Blk w3 we.heap.size 132 #[.int .i64 l, .int .i64 f, .int .i64 z, .string ⟨lo.toArray⟩, .string ⟨hi.toArray⟩] := by rw [hw3]; exact Blk.new _ _ _
            have hcb : Chg (fun _ => False) we w3 := by rw [hw3]; ((repeat (first | exact Chg.refl _ _ | assumption | refine Chg.drewN ?_ _ | refine Chg.drew ?_ | refine Chg.alloc ?_ _ | refine Chg.setCell ?_ (by first | (simp; done) | (simp; omega) | (intro h; simp at h; omega)) _)))
            have HB3 := Lib.hid hb3
            have HL3 := Lib.hid (HLCD.out.same hcb)
            have HO3 := Lib.hid (HOCD.out.chg hcb (by simp))
            have HX3 := Lib.hid (HXCD.out.chg hcb (by simp))
            have HR3 := Lib.hid (show RdAt w3 (g + 1 + 1) s k5 from Blk.chg HRCD.out hcb (by simp))
            have HC3 := Lib.hid (HCCD.out.then hcb)
            have HDR3 := Lib.hid hcb
            have y0 := HO3.out.cell 0
            simp at y0
            rw [← hw3]
            clear hw3 hb3 hcb
            refine hK _ _ ?_
            clear hK K
            try simp only [Act.put, List.setIfInBounds_toArray, List.set_cons_zero, List.set_cons_succ]
            have hed2 : editV L = ed7 L log next seq dr (M - (j + 1)) k5 (acc ++ [⟨l, ⟨f, z, ⟨lo.toArray⟩, ⟨hi.toArray⟩⟩⟩]) := by
              have e : M - (j + 1) = m := by omega
              have hp : placeV L k = .inl (⟨l, ⟨f, z, ⟨lo.toArray⟩, ⟨hi.toArray⟩⟩⟩, k5) := by
                unfold placeV
                rw [hvl]; simp only
                rw [hvCA]; simp only
                rw [hvCB]; simp only
                rw [hvCC]; simp only
                rw [hvCD]
              rw [HED.out, ed7, hm, addsV_step, hp, e, ed7]
            have HEDN := Lib.hid hed2
            clear hed2
            refine wpAny_ready (rs := [14]) (by kernel_rfl) (by simp) ?_
            refine AllReady.cons rfl (fun K hK => ?_) AllReady.nil
            refine step_lst_app placeOk _ (by rfl) _ _ (by rfl) acc (.slice aa j acap) ⟨l, ⟨f, z, ⟨lo.toArray⟩, ⟨hi.toArray⟩⟩⟩ (by rfl) HL3.out we.heap.size (by rfl) (by omega) HB3.out ?_
            intro v' w4 hl4 hc4 hk4
            have hne : ∀ b, (Value.slice aa j acap).ownBlock = some b → b ≠ g ∧ b ≠ g + 1 ∧ b ≠ g + 1 + 1 := fun b hb => by
              obtain ⟨cs, hB⟩ := HL3.out.typed hb
              exact ⟨hB.ne_ HO3.out (by decide), hB.ne_ HX3.out (by decide), hB.ne_ (show Blk _ (g + 1 + 1) _ _ from HR3.out) (by decide)⟩
            have hdrw : Lst i64C w3 (.slice da dr.length dcap) dr := Lst.same (w := we) (HDR.out.chg HDCD.out fun b hb e => by
              obtain ⟨cs, hB⟩ := HDR.out.typed hb
              exact hB.ne_ (show Blk wd (g + 1 + 1) _ _ from HR.out) (by decide) e) HDR3.out
            have hdr4 : Lst i64C w4 (.slice da dr.length dcap) dr := hdrw.chg hc4 fun b hb e => by
              obtain ⟨cs, hB⟩ := hdrw.typed hb
              obtain ⟨cs', hB'⟩ := HL3.out.typed e
              exact hB.ne_ hB' (by decide) rfl
            have ho4 := HO3.out.chg hc4 fun e => (hne g e).1 rfl
            have hx4 := HX3.out.chg hc4 fun e => (hne (g + 1) e).2.1 rfl
            have hr4 : RdAt w4 (g + 1 + 1) s k5 := Blk.chg HR3.out hc4 fun e => (hne (g + 1 + 1) e).2.2 rfl
            have hcw4 : Chg (fun _ => False) w w4 := HC3.out.trans hc4 fun b hb e => by
              have := HOWN.out b e
              omega
            have hown4 : ∀ b, v'.ownBlock = some b → w.heap.size ≤ b := fun b hb => by
              rcases hk4 b hb with e | e
              · exact HOWN.out b e
              · have := HC3.out.size; omega
            obtain ⟨va, vc, rfl, _⟩ := place_form hl4
            have y0 := ho4.cell 0
            have f0 := ho4.frozen 0
            simp at y0
            have HO4 := Lib.hid ho4
            have HX4 := Lib.hid hx4
            have HR4 := Lib.hid hr4
            have HC4 := Lib.hid hcw4
            have HL4 := Lib.hid hl4
            have HOWN4 := Lib.hid hown4
            have HDR4 := Lib.hid hdr4
            clear ho4 hx4 hr4 hcw4 hl4 hown4 hne hc4 hk4 hdr4
            refine hK _ _ ?_
            clear hK K
            try simp only [Act.put, List.setIfInBounds_toArray, List.set_cons_zero, List.set_cons_succ]
            refine wpAny_ready (rs := [15]) (by kernel_rfl) (by simp) ?_
            refine AllReady.cons rfl (fun K hK => ?_) AllReady.nil
            go_simp
            refine hK _ _ ?_
            clear hK K
            try simp only [Act.put, List.setIfInBounds_toArray, List.set_cons_zero, List.set_cons_succ]
            refine wpAny_ready (rs := [16]) (by kernel_rfl) (by simp) ?_
            refine AllReady.cons rfl (fun K hK => ?_) AllReady.nil
            go_simp
            have hll : (acc ++ [(⟨l, ⟨f, z, ⟨lo.toArray⟩, ⟨hi.toArray⟩⟩⟩ : PlaceV)]).length = j + 1 := by simp [hacc]
            have ho4' := HO4.out
            have hl4' := HL4.out
            have hown4' := HOWN4.out
            rw [hll] at hl4' hown4'
            obtain ⟨w5, hw5⟩ : ∃ w5, w5 = w4.setCell ⟨g, 0, none⟩ (.slice va (j + 1) vc) := ⟨_, rfl⟩
            have ho5 : Blk w5 g 57 #[.slice va (j + 1) vc, .slice da dr.length dcap, .int .i64 log, .int .i64 next, .int .i64 seq] := by
              rw [hw5]
              simpa using ho4'.set_ 0 (.slice va (j + 1) vc)
            have hc5 : Chg (fun k => k = g) w4 w5 := by rw [hw5]; ((repeat (first | with_reducible exact Chg.refl _ _ | with_reducible assumption | with_reducible refine Chg.drewN ?_ _ | with_reducible refine Chg.drew ?_ | with_reducible refine Chg.alloc ?_ _ | with_reducible refine Chg.setCell ?_ (by first | (simp; done) | (simp; omega) | (intro h; simp at h; omega)) _)))
            have hl5 : Lst placeC w5 (.slice va (j + 1) vc) (acc ++ [⟨l, ⟨f, z, ⟨lo.toArray⟩, ⟨hi.toArray⟩⟩⟩]) := hl4'.chg hc5 fun b hb e => by
              obtain ⟨cs, hB⟩ := hl4'.typed hb
              exact hB.ne_ ho4' (by decide) e
            have hd5 : Lst i64C w5 (.slice da dr.length dcap) dr := HDR4.out.chg hc5 fun b hb e => by
              obtain ⟨cs, hB⟩ := HDR4.out.typed hb
              exact hB.ne_ ho4' (by decide) e
            rw [← hw5]
            have HO5 := Lib.hid ho5
            have HL5 := Lib.hid hl5
            have HD5 := Lib.hid hd5
            have HX5 := Lib.hid (HX4.out.chg hc5 (by omega))
            have HR5 := Lib.hid (show RdAt w5 (g + 1 + 1) s k5 from Blk.chg HR4.out hc5 (by omega))
            have HC5 := Lib.hid (HC4.out.trans hc5 fun k hk h => by have := HG.out; omega)
            have HW5 := Lib.hid hown4'
            clear hw5 ho5 hl5 hc5 hd5 ho4' hl4' hown4'
            refine hK _ _ ?_
            clear hK K
            refine wpAny_done (by kernel_rfl) ?_ _
            go_wp2_with fail
            exact ⟨⟨j + 1, k5, acc ++ [⟨l, ⟨f, z, ⟨lo.toArray⟩, ⟨hi.toArray⟩⟩⟩], _, by omega, by first | rfl | (simp; done), hlCD, hll, HEDN.out, HO5.out, HL5.out, HW5.out, HD5.out, HX5.out, HR5.out, HC5.out⟩, by simp [intOf]; omega⟩
          · skip
            go_simp
            refine (HNUM.out k1 (by omega) wd HR.out).mono ?_
            intro e wa h
            cases hvCA : getV L k1 with
            | inr c =>
              rw [hvCA] at h
              obtain ⟨rfl, hc0, hc1⟩ := h
              have HED2 := Lib.hid (show editV L = .inr c by rw [HED.out, ed7, hm, addsV_step]; unfold placeV; rw [hvl]; simp only; rw [hvCA])
              have HO := HO
              have HX := HX
              have HC := HC
              go_simp
              exact ⟨⟨c, _, rfl, HED2.out, hc0, HO.out.chg hc1 (by omega), rfl, HX.out.chg hc1 (by omega), HC.out.trans hc1 fun k hk h => by have := HG.out; omega⟩, rfl, rfl, rfl⟩
            | inl x =>
            obtain ⟨f, k2⟩ := x
            rw [hvCA] at h
            obtain ⟨rfl, hR, hc1⟩ := h
            have hlCA := (getV_le (by rw [HLL.out]; omega) hvCA).2
            rw [HLL.out] at hlCA
            have HOCA := Lib.hid (HO.out.chg hc1 (by omega))
            have HLCA := Lib.hid (HL.out.chg hc1 fun b hb e => by
              obtain ⟨cs, hB⟩ := HL.out.typed hb
              exact hB.ne_ (show Blk wd (g + 1 + 1) _ _ from HR.out) (by decide) e)
            have HXCA := Lib.hid (HX.out.chg hc1 (by omega))
            have HRCA := Lib.hid hR
            have HCCA := Lib.hid (HC.out.trans hc1 fun k hk h => by have := HG.out; omega)
            have HDCA := Lib.hid (hc1)
            have y0 := HOCA.out.cell 0
            simp at y0
            clear hR hc1
            dsimp only
            refine hK _ _ ?_
            clear hK K
            try simp only [Act.put, List.setIfInBounds_toArray, List.set_cons_zero, List.set_cons_succ]
            refine wpAny_ready (rs := [1, 6]) (by kernel_rfl) (by simp) ?_
            refine AllReady.cons rfl (fun K hK => ?_) (AllReady.cons rfl (fun K hK => ?_) AllReady.nil)
            · skip
              go_simp
              refine hK _ _ ?_
              clear hK K
              try simp only [Act.put, List.setIfInBounds_toArray, List.set_cons_zero, List.set_cons_succ]
              refine wpAny_ready (rs := [6]) (by kernel_rfl) (by simp) ?_
              refine AllReady.cons rfl (fun K hK => ?_) AllReady.nil
              go_simp
              refine (HNUM.out k2 (by omega) wa HRCA.out).mono ?_
              intro e wb h
              cases hvCB : getV L k2 with
              | inr c =>
                rw [hvCB] at h
                obtain ⟨rfl, hc0, hc1⟩ := h
                have HED2 := Lib.hid (show editV L = .inr c by rw [HED.out, ed7, hm, addsV_step]; unfold placeV; rw [hvl]; simp only; rw [hvCA]; simp only; rw [hvCB])
                have HO := HOCA
                have HX := HXCA
                have HC := HCCA
                go_simp
                exact ⟨⟨c, _, rfl, HED2.out, hc0, HO.out.chg hc1 (by omega), rfl, HX.out.chg hc1 (by omega), HC.out.trans hc1 fun k hk h => by have := HG.out; omega⟩, rfl, rfl, rfl⟩
              | inl x =>
              obtain ⟨z, k3⟩ := x
              rw [hvCB] at h
              obtain ⟨rfl, hR, hc1⟩ := h
              have hlCB := (getV_le (by rw [HLL.out]; omega) hvCB).2
              rw [HLL.out] at hlCB
              have HOCB := Lib.hid (HOCA.out.chg hc1 (by omega))
              have HLCB := Lib.hid (HLCA.out.chg hc1 fun b hb e => by
                obtain ⟨cs, hB⟩ := HLCA.out.typed hb
                exact hB.ne_ (show Blk wa (g + 1 + 1) _ _ from HRCA.out) (by decide) e)
              have HXCB := Lib.hid (HXCA.out.chg hc1 (by omega))
              have HRCB := Lib.hid hR
              have HCCB := Lib.hid (HCCA.out.trans hc1 fun k hk h => by have := HG.out; omega)
              have HDCB := Lib.hid (HDCA.out.then hc1)
              have y0 := HOCB.out.cell 0
              simp at y0
              clear hR hc1
              dsimp only
              refine hK _ _ ?_
              clear hK K
              try simp only [Act.put, List.setIfInBounds_toArray, List.set_cons_zero, List.set_cons_succ]
              refine wpAny_ready (rs := [8]) (by kernel_rfl) (by simp) ?_
              refine AllReady.cons rfl (fun K hK => ?_) AllReady.nil
              go_simp
              refine (HTXT.out k3 (by omega) wb HRCB.out).mono ?_
              intro e wc h
              cases hvCC : textV L k3 with
              | inr c =>
                rw [hvCC] at h
                obtain ⟨rfl, hc0, hc1⟩ := h
                have HED2 := Lib.hid (show editV L = .inr c by rw [HED.out, ed7, hm, addsV_step]; unfold placeV; rw [hvl]; simp only; rw [hvCA]; simp only; rw [hvCB]; simp only; rw [hvCC])
                have HO := HOCB
                have HX := HXCB
                have HC := HCCB
                go_simp
                exact ⟨⟨c, _, rfl, HED2.out, hc0, HO.out.chg hc1 (by omega), rfl, HX.out.chg hc1 (by omega), HC.out.trans hc1 fun k hk h => by have := HG.out; omega⟩, rfl, rfl, rfl⟩
              | inl x =>
              obtain ⟨lo, k4⟩ := x
              rw [hvCC] at h
              obtain ⟨rfl, hR, hc1⟩ := h
              have hlCC := (textV_le (by rw [HLL.out]; omega) hvCC).2.1
              rw [HLL.out] at hlCC
              have HOCC := Lib.hid (HOCB.out.chg hc1 (by omega))
              have HLCC := Lib.hid (HLCB.out.chg hc1 fun b hb e => by
                obtain ⟨cs, hB⟩ := HLCB.out.typed hb
                exact hB.ne_ (show Blk wb (g + 1 + 1) _ _ from HRCB.out) (by decide) e)
              have HXCC := Lib.hid (HXCB.out.chg hc1 (by omega))
              have HRCC := Lib.hid hR
              have HCCC := Lib.hid (HCCB.out.trans hc1 fun k hk h => by have := HG.out; omega)
              have HDCC := Lib.hid (HDCB.out.then hc1)
              have y0 := HOCC.out.cell 0
              simp at y0
              clear hR hc1
              dsimp only
              refine hK _ _ ?_
              clear hK K
              try simp only [Act.put, List.setIfInBounds_toArray, List.set_cons_zero, List.set_cons_succ]
              refine wpAny_ready (rs := [10]) (by kernel_rfl) (by simp) ?_
              refine AllReady.cons rfl (fun K hK => ?_) AllReady.nil
              go_simp
              refine (HTXT.out k4 (by omega) wc HRCC.out).mono ?_
              intro e we h
              cases hvCD : textV L k4 with
              | inr c =>
                rw [hvCD] at h
                obtain ⟨rfl, hc0, hc1⟩ := h
                have HED2 := Lib.hid (show editV L = .inr c by rw [HED.out, ed7, hm, addsV_step]; unfold placeV; rw [hvl]; simp only; rw [hvCA]; simp only; rw [hvCB]; simp only; rw [hvCC]; simp only; rw [hvCD])
                have HO := HOCC
                have HX := HXCC
                have HC := HCCC
                go_simp
                exact ⟨⟨c, _, rfl, HED2.out, hc0, HO.out.chg hc1 (by omega), rfl, HX.out.chg hc1 (by omega), HC.out.trans hc1 fun k hk h => by have := HG.out; omega⟩, rfl, rfl, rfl⟩
              | inl x =>
              obtain ⟨hi, k5⟩ := x
              rw [hvCD] at h
              obtain ⟨rfl, hR, hc1⟩ := h
              have hlCD := (textV_le (by rw [HLL.out]; omega) hvCD).2.1
              rw [HLL.out] at hlCD
              have HOCD := Lib.hid (HOCC.out.chg hc1 (by omega))
              have HLCD := Lib.hid (HLCC.out.chg hc1 fun b hb e => by
                obtain ⟨cs, hB⟩ := HLCC.out.typed hb
                exact hB.ne_ (show Blk wc (g + 1 + 1) _ _ from HRCC.out) (by decide) e)
              have HXCD := Lib.hid (HXCC.out.chg hc1 (by omega))
              have HRCD := Lib.hid hR
              have HCCD := Lib.hid (HCCC.out.trans hc1 fun k hk h => by have := HG.out; omega)
              have HDCD := Lib.hid (HDCC.out.then hc1)
              have y0 := HOCD.out.cell 0
              simp at y0
              clear hR hc1
              dsimp only
              refine hK _ _ ?_
              clear hK K
              try simp only [Act.put, List.setIfInBounds_toArray, List.set_cons_zero, List.set_cons_succ]
              refine wpAny_take (i := 11) (v := .agg #[.int .i64 f, .int .i64 z, .string ⟨lo.toArray⟩, .string ⟨hi.toArray⟩]) rfl (by kernel_rfl) (by kernel_rfl) (by kernel_rfl) (fun c a w h => fq_put (Q := fun _ _ _ => True) (by decide) (by decide) c a w h) (Or.inl ⟨by rfl, fun w => by go_simp⟩) ?_
              try simp only [Act.put, List.setIfInBounds_toArray, List.set_cons_zero, List.set_cons_succ]
              refine wpAny_take (i := 12) (v := .agg #[.int .i64 l, .int .i64 f, .int .i64 z, .string ⟨lo.toArray⟩, .string ⟨hi.toArray⟩]) rfl (by kernel_rfl) (by kernel_rfl) (by kernel_rfl) (fun c a w h => fq_put (Q := fun _ _ _ => True) (by decide) (by decide) c a w h) (Or.inl ⟨by rfl, fun w => by go_simp⟩) ?_
              try simp only [Act.put, List.setIfInBounds_toArray, List.set_cons_zero, List.set_cons_succ]
              refine wpAny_ready (rs := [13]) (by kernel_rfl) (by simp) ?_
              refine AllReady.cons rfl (fun K hK => ?_) AllReady.nil
              go_simp
              obtain ⟨w3, hw3⟩ : ∃ w3, w3 = we.alloc (.cells #[.int .i64 l, .int .i64 f, .int .i64 z, .string ⟨lo.toArray⟩, .string ⟨hi.toArray⟩] 132) := ⟨_, rfl⟩
              have hb3 : Blk w3 we.heap.size 132 #[.int .i64 l, .int .i64 f, .int .i64 z, .string ⟨lo.toArray⟩, .string ⟨hi.toArray⟩] := by rw [hw3]; exact Blk.new _ _ _
              have hcb : Chg (fun _ => False) we w3 := by rw [hw3]; ((repeat (first | exact Chg.refl _ _ | assumption | refine Chg.drewN ?_ _ | refine Chg.drew ?_ | refine Chg.alloc ?_ _ | refine Chg.setCell ?_ (by first | (simp; done) | (simp; omega) | (intro h; simp at h; omega)) _)))
              have HB3 := Lib.hid hb3
              have HL3 := Lib.hid (HLCD.out.same hcb)
              have HO3 := Lib.hid (HOCD.out.chg hcb (by simp))
              have HX3 := Lib.hid (HXCD.out.chg hcb (by simp))
              have HR3 := Lib.hid (show RdAt w3 (g + 1 + 1) s k5 from Blk.chg HRCD.out hcb (by simp))
              have HC3 := Lib.hid (HCCD.out.then hcb)
              have HDR3 := Lib.hid hcb
              have y0 := HO3.out.cell 0
              simp at y0
              rw [← hw3]
              clear hw3 hb3 hcb
              refine hK _ _ ?_
              clear hK K
              try simp only [Act.put, List.setIfInBounds_toArray, List.set_cons_zero, List.set_cons_succ]
              have hed2 : editV L = ed7 L log next seq dr (M - (j + 1)) k5 (acc ++ [⟨l, ⟨f, z, ⟨lo.toArray⟩, ⟨hi.toArray⟩⟩⟩]) := by
                have e : M - (j + 1) = m := by omega
                have hp : placeV L k = .inl (⟨l, ⟨f, z, ⟨lo.toArray⟩, ⟨hi.toArray⟩⟩⟩, k5) := by
                  unfold placeV
                  rw [hvl]; simp only
                  rw [hvCA]; simp only
                  rw [hvCB]; simp only
                  rw [hvCC]; simp only
                  rw [hvCD]
                rw [HED.out, ed7, hm, addsV_step, hp, e, ed7]
              have HEDN := Lib.hid hed2
              clear hed2
              refine wpAny_ready (rs := [14]) (by kernel_rfl) (by simp) ?_
              refine AllReady.cons rfl (fun K hK => ?_) AllReady.nil
              refine step_lst_app placeOk _ (by rfl) _ _ (by rfl) acc (.slice aa j acap) ⟨l, ⟨f, z, ⟨lo.toArray⟩, ⟨hi.toArray⟩⟩⟩ (by rfl) HL3.out we.heap.size (by rfl) (by omega) HB3.out ?_
              intro v' w4 hl4 hc4 hk4
              have hne : ∀ b, (Value.slice aa j acap).ownBlock = some b → b ≠ g ∧ b ≠ g + 1 ∧ b ≠ g + 1 + 1 := fun b hb => by
                obtain ⟨cs, hB⟩ := HL3.out.typed hb
                exact ⟨hB.ne_ HO3.out (by decide), hB.ne_ HX3.out (by decide), hB.ne_ (show Blk _ (g + 1 + 1) _ _ from HR3.out) (by decide)⟩
              have hdrw : Lst i64C w3 (.slice da dr.length dcap) dr := Lst.same (w := we) (HDR.out.chg HDCD.out fun b hb e => by
                obtain ⟨cs, hB⟩ := HDR.out.typed hb
                exact hB.ne_ (show Blk wd (g + 1 + 1) _ _ from HR.out) (by decide) e) HDR3.out
              have hdr4 : Lst i64C w4 (.slice da dr.length dcap) dr := hdrw.chg hc4 fun b hb e => by
                obtain ⟨cs, hB⟩ := hdrw.typed hb
                obtain ⟨cs', hB'⟩ := HL3.out.typed e
                exact hB.ne_ hB' (by decide) rfl
              have ho4 := HO3.out.chg hc4 fun e => (hne g e).1 rfl
              have hx4 := HX3.out.chg hc4 fun e => (hne (g + 1) e).2.1 rfl
              have hr4 : RdAt w4 (g + 1 + 1) s k5 := Blk.chg HR3.out hc4 fun e => (hne (g + 1 + 1) e).2.2 rfl
              have hcw4 : Chg (fun _ => False) w w4 := HC3.out.trans hc4 fun b hb e => by
                have := HOWN.out b e
                omega
              have hown4 : ∀ b, v'.ownBlock = some b → w.heap.size ≤ b := fun b hb => by
                rcases hk4 b hb with e | e
                · exact HOWN.out b e
                · have := HC3.out.size; omega
              obtain ⟨va, vc, rfl, _⟩ := place_form hl4
              have y0 := ho4.cell 0
              have f0 := ho4.frozen 0
              simp at y0
              have HO4 := Lib.hid ho4
              have HX4 := Lib.hid hx4
              have HR4 := Lib.hid hr4
              have HC4 := Lib.hid hcw4
              have HL4 := Lib.hid hl4
              have HOWN4 := Lib.hid hown4
              have HDR4 := Lib.hid hdr4
              clear ho4 hx4 hr4 hcw4 hl4 hown4 hne hc4 hk4 hdr4
              refine hK _ _ ?_
              clear hK K
              try simp only [Act.put, List.setIfInBounds_toArray, List.set_cons_zero, List.set_cons_succ]
              refine wpAny_ready (rs := [15]) (by kernel_rfl) (by simp) ?_
              refine AllReady.cons rfl (fun K hK => ?_) AllReady.nil
              go_simp
              refine hK _ _ ?_
              clear hK K
              try simp only [Act.put, List.setIfInBounds_toArray, List.set_cons_zero, List.set_cons_succ]
              refine wpAny_ready (rs := [16]) (by kernel_rfl) (by simp) ?_
              refine AllReady.cons rfl (fun K hK => ?_) AllReady.nil
              go_simp
              have hll : (acc ++ [(⟨l, ⟨f, z, ⟨lo.toArray⟩, ⟨hi.toArray⟩⟩⟩ : PlaceV)]).length = j + 1 := by simp [hacc]
              have ho4' := HO4.out
              have hl4' := HL4.out
              have hown4' := HOWN4.out
              rw [hll] at hl4' hown4'
              obtain ⟨w5, hw5⟩ : ∃ w5, w5 = w4.setCell ⟨g, 0, none⟩ (.slice va (j + 1) vc) := ⟨_, rfl⟩
              have ho5 : Blk w5 g 57 #[.slice va (j + 1) vc, .slice da dr.length dcap, .int .i64 log, .int .i64 next, .int .i64 seq] := by
                rw [hw5]
                simpa using ho4'.set_ 0 (.slice va (j + 1) vc)
              have hc5 : Chg (fun k => k = g) w4 w5 := by rw [hw5]; ((repeat (first | with_reducible exact Chg.refl _ _ | with_reducible assumption | with_reducible refine Chg.drewN ?_ _ | with_reducible refine Chg.drew ?_ | with_reducible refine Chg.alloc ?_ _ | with_reducible refine Chg.setCell ?_ (by first | (simp; done) | (simp; omega) | (intro h; simp at h; omega)) _)))
              have hl5 : Lst placeC w5 (.slice va (j + 1) vc) (acc ++ [⟨l, ⟨f, z, ⟨lo.toArray⟩, ⟨hi.toArray⟩⟩⟩]) := hl4'.chg hc5 fun b hb e => by
                obtain ⟨cs, hB⟩ := hl4'.typed hb
                exact hB.ne_ ho4' (by decide) e
              have hd5 : Lst i64C w5 (.slice da dr.length dcap) dr := HDR4.out.chg hc5 fun b hb e => by
                obtain ⟨cs, hB⟩ := HDR4.out.typed hb
                exact hB.ne_ ho4' (by decide) e
              rw [← hw5]
              have HO5 := Lib.hid ho5
              have HL5 := Lib.hid hl5
              have HD5 := Lib.hid hd5
              have HX5 := Lib.hid (HX4.out.chg hc5 (by omega))
              have HR5 := Lib.hid (show RdAt w5 (g + 1 + 1) s k5 from Blk.chg HR4.out hc5 (by omega))
              have HC5 := Lib.hid (HC4.out.trans hc5 fun k hk h => by have := HG.out; omega)
              have HW5 := Lib.hid hown4'
              clear hw5 ho5 hl5 hc5 hd5 ho4' hl4' hown4'
              refine hK _ _ ?_
              clear hK K
              refine wpAny_done (by kernel_rfl) ?_ _
              go_wp2_with fail
              exact ⟨⟨j + 1, k5, acc ++ [⟨l, ⟨f, z, ⟨lo.toArray⟩, ⟨hi.toArray⟩⟩⟩], _, by omega, by first | rfl | (simp; done), hlCD, hll, HEDN.out, HO5.out, HL5.out, HW5.out, HD5.out, HX5.out, HR5.out, HC5.out⟩, by simp [intOf]; omega⟩
            · skip
              go_simp
              refine (HNUM.out k2 (by omega) wa HRCA.out).mono ?_
              intro e wb h
              cases hvCB : getV L k2 with
              | inr c =>
                rw [hvCB] at h
                obtain ⟨rfl, hc0, hc1⟩ := h
                have HED2 := Lib.hid (show editV L = .inr c by rw [HED.out, ed7, hm, addsV_step]; unfold placeV; rw [hvl]; simp only; rw [hvCA]; simp only; rw [hvCB])
                have HO := HOCA
                have HX := HXCA
                have HC := HCCA
                go_simp
                exact ⟨⟨c, _, rfl, HED2.out, hc0, HO.out.chg hc1 (by omega), rfl, HX.out.chg hc1 (by omega), HC.out.trans hc1 fun k hk h => by have := HG.out; omega⟩, rfl, rfl, rfl⟩
              | inl x =>
              obtain ⟨z, k3⟩ := x
              rw [hvCB] at h
              obtain ⟨rfl, hR, hc1⟩ := h
              have hlCB := (getV_le (by rw [HLL.out]; omega) hvCB).2
              rw [HLL.out] at hlCB
              have HOCB := Lib.hid (HOCA.out.chg hc1 (by omega))
              have HLCB := Lib.hid (HLCA.out.chg hc1 fun b hb e => by
                obtain ⟨cs, hB⟩ := HLCA.out.typed hb
                exact hB.ne_ (show Blk wa (g + 1 + 1) _ _ from HRCA.out) (by decide) e)
              have HXCB := Lib.hid (HXCA.out.chg hc1 (by omega))
              have HRCB := Lib.hid hR
              have HCCB := Lib.hid (HCCA.out.trans hc1 fun k hk h => by have := HG.out; omega)
              have HDCB := Lib.hid (HDCA.out.then hc1)
              have y0 := HOCB.out.cell 0
              simp at y0
              clear hR hc1
              dsimp only
              refine hK _ _ ?_
              clear hK K
              try simp only [Act.put, List.setIfInBounds_toArray, List.set_cons_zero, List.set_cons_succ]
              refine wpAny_ready (rs := [1, 8]) (by kernel_rfl) (by simp) ?_
              refine AllReady.cons rfl (fun K hK => ?_) (AllReady.cons rfl (fun K hK => ?_) AllReady.nil)
              · skip
                go_simp
                refine hK _ _ ?_
                clear hK K
                try simp only [Act.put, List.setIfInBounds_toArray, List.set_cons_zero, List.set_cons_succ]
                refine wpAny_ready (rs := [8]) (by kernel_rfl) (by simp) ?_
                refine AllReady.cons rfl (fun K hK => ?_) AllReady.nil
                go_simp
                refine (HTXT.out k3 (by omega) wb HRCB.out).mono ?_
                intro e wc h
                cases hvCC : textV L k3 with
                | inr c =>
                  rw [hvCC] at h
                  obtain ⟨rfl, hc0, hc1⟩ := h
                  have HED2 := Lib.hid (show editV L = .inr c by rw [HED.out, ed7, hm, addsV_step]; unfold placeV; rw [hvl]; simp only; rw [hvCA]; simp only; rw [hvCB]; simp only; rw [hvCC])
                  have HO := HOCB
                  have HX := HXCB
                  have HC := HCCB
                  go_simp
                  exact ⟨⟨c, _, rfl, HED2.out, hc0, HO.out.chg hc1 (by omega), rfl, HX.out.chg hc1 (by omega), HC.out.trans hc1 fun k hk h => by have := HG.out; omega⟩, rfl, rfl, rfl⟩
                | inl x =>
                obtain ⟨lo, k4⟩ := x
                rw [hvCC] at h
                obtain ⟨rfl, hR, hc1⟩ := h
                have hlCC := (textV_le (by rw [HLL.out]; omega) hvCC).2.1
                rw [HLL.out] at hlCC
                have HOCC := Lib.hid (HOCB.out.chg hc1 (by omega))
                have HLCC := Lib.hid (HLCB.out.chg hc1 fun b hb e => by
                  obtain ⟨cs, hB⟩ := HLCB.out.typed hb
                  exact hB.ne_ (show Blk wb (g + 1 + 1) _ _ from HRCB.out) (by decide) e)
                have HXCC := Lib.hid (HXCB.out.chg hc1 (by omega))
                have HRCC := Lib.hid hR
                have HCCC := Lib.hid (HCCB.out.trans hc1 fun k hk h => by have := HG.out; omega)
                have HDCC := Lib.hid (HDCB.out.then hc1)
                have y0 := HOCC.out.cell 0
                simp at y0
                clear hR hc1
                dsimp only
                refine hK _ _ ?_
                clear hK K
                try simp only [Act.put, List.setIfInBounds_toArray, List.set_cons_zero, List.set_cons_succ]
                refine wpAny_ready (rs := [10]) (by kernel_rfl) (by simp) ?_
                refine AllReady.cons rfl (fun K hK => ?_) AllReady.nil
                go_simp
                refine (HTXT.out k4 (by omega) wc HRCC.out).mono ?_
                intro e we h
                cases hvCD : textV L k4 with
                | inr c =>
                  rw [hvCD] at h
                  obtain ⟨rfl, hc0, hc1⟩ := h
                  have HED2 := Lib.hid (show editV L = .inr c by rw [HED.out, ed7, hm, addsV_step]; unfold placeV; rw [hvl]; simp only; rw [hvCA]; simp only; rw [hvCB]; simp only; rw [hvCC]; simp only; rw [hvCD])
                  have HO := HOCC
                  have HX := HXCC
                  have HC := HCCC
                  go_simp
                  exact ⟨⟨c, _, rfl, HED2.out, hc0, HO.out.chg hc1 (by omega), rfl, HX.out.chg hc1 (by omega), HC.out.trans hc1 fun k hk h => by have := HG.out; omega⟩, rfl, rfl, rfl⟩
                | inl x =>
                obtain ⟨hi, k5⟩ := x
                rw [hvCD] at h
                obtain ⟨rfl, hR, hc1⟩ := h
                have hlCD := (textV_le (by rw [HLL.out]; omega) hvCD).2.1
                rw [HLL.out] at hlCD
                have HOCD := Lib.hid (HOCC.out.chg hc1 (by omega))
                have HLCD := Lib.hid (HLCC.out.chg hc1 fun b hb e => by
                  obtain ⟨cs, hB⟩ := HLCC.out.typed hb
                  exact hB.ne_ (show Blk wc (g + 1 + 1) _ _ from HRCC.out) (by decide) e)
                have HXCD := Lib.hid (HXCC.out.chg hc1 (by omega))
                have HRCD := Lib.hid hR
                have HCCD := Lib.hid (HCCC.out.trans hc1 fun k hk h => by have := HG.out; omega)
                have HDCD := Lib.hid (HDCC.out.then hc1)
                have y0 := HOCD.out.cell 0
                simp at y0
                clear hR hc1
                dsimp only
                refine hK _ _ ?_
                clear hK K
                try simp only [Act.put, List.setIfInBounds_toArray, List.set_cons_zero, List.set_cons_succ]
                refine wpAny_take (i := 11) (v := .agg #[.int .i64 f, .int .i64 z, .string ⟨lo.toArray⟩, .string ⟨hi.toArray⟩]) rfl (by kernel_rfl) (by kernel_rfl) (by kernel_rfl) (fun c a w h => fq_put (Q := fun _ _ _ => True) (by decide) (by decide) c a w h) (Or.inl ⟨by rfl, fun w => by go_simp⟩) ?_
                try simp only [Act.put, List.setIfInBounds_toArray, List.set_cons_zero, List.set_cons_succ]
                refine wpAny_take (i := 12) (v := .agg #[.int .i64 l, .int .i64 f, .int .i64 z, .string ⟨lo.toArray⟩, .string ⟨hi.toArray⟩]) rfl (by kernel_rfl) (by kernel_rfl) (by kernel_rfl) (fun c a w h => fq_put (Q := fun _ _ _ => True) (by decide) (by decide) c a w h) (Or.inl ⟨by rfl, fun w => by go_simp⟩) ?_
                try simp only [Act.put, List.setIfInBounds_toArray, List.set_cons_zero, List.set_cons_succ]
                refine wpAny_ready (rs := [13]) (by kernel_rfl) (by simp) ?_
                refine AllReady.cons rfl (fun K hK => ?_) AllReady.nil
                go_simp
                obtain ⟨w3, hw3⟩ : ∃ w3, w3 = we.alloc (.cells #[.int .i64 l, .int .i64 f, .int .i64 z, .string ⟨lo.toArray⟩, .string ⟨hi.toArray⟩] 132) := ⟨_, rfl⟩
                have hb3 : Blk w3 we.heap.size 132 #[.int .i64 l, .int .i64 f, .int .i64 z, .string ⟨lo.toArray⟩, .string ⟨hi.toArray⟩] := by rw [hw3]; exact Blk.new _ _ _
                have hcb : Chg (fun _ => False) we w3 := by rw [hw3]; ((repeat (first | exact Chg.refl _ _ | assumption | refine Chg.drewN ?_ _ | refine Chg.drew ?_ | refine Chg.alloc ?_ _ | refine Chg.setCell ?_ (by first | (simp; done) | (simp; omega) | (intro h; simp at h; omega)) _)))
                have HB3 := Lib.hid hb3
                have HL3 := Lib.hid (HLCD.out.same hcb)
                have HO3 := Lib.hid (HOCD.out.chg hcb (by simp))
                have HX3 := Lib.hid (HXCD.out.chg hcb (by simp))
                have HR3 := Lib.hid (show RdAt w3 (g + 1 + 1) s k5 from Blk.chg HRCD.out hcb (by simp))
                have HC3 := Lib.hid (HCCD.out.then hcb)
                have HDR3 := Lib.hid hcb
                have y0 := HO3.out.cell 0
                simp at y0
                rw [← hw3]
                clear hw3 hb3 hcb
                refine hK _ _ ?_
                clear hK K
                try simp only [Act.put, List.setIfInBounds_toArray, List.set_cons_zero, List.set_cons_succ]
                have hed2 : editV L = ed7 L log next seq dr (M - (j + 1)) k5 (acc ++ [⟨l, ⟨f, z, ⟨lo.toArray⟩, ⟨hi.toArray⟩⟩⟩]) := by
                  have e : M - (j + 1) = m := by omega
                  have hp : placeV L k = .inl (⟨l, ⟨f, z, ⟨lo.toArray⟩, ⟨hi.toArray⟩⟩⟩, k5) := by
                    unfold placeV
                    rw [hvl]; simp only
                    rw [hvCA]; simp only
                    rw [hvCB]; simp only
                    rw [hvCC]; simp only
                    rw [hvCD]
                  rw [HED.out, ed7, hm, addsV_step, hp, e, ed7]
                have HEDN := Lib.hid hed2
                clear hed2
                refine wpAny_ready (rs := [14]) (by kernel_rfl) (by simp) ?_
                refine AllReady.cons rfl (fun K hK => ?_) AllReady.nil
                refine step_lst_app placeOk _ (by rfl) _ _ (by rfl) acc (.slice aa j acap) ⟨l, ⟨f, z, ⟨lo.toArray⟩, ⟨hi.toArray⟩⟩⟩ (by rfl) HL3.out we.heap.size (by rfl) (by omega) HB3.out ?_
                intro v' w4 hl4 hc4 hk4
                have hne : ∀ b, (Value.slice aa j acap).ownBlock = some b → b ≠ g ∧ b ≠ g + 1 ∧ b ≠ g + 1 + 1 := fun b hb => by
                  obtain ⟨cs, hB⟩ := HL3.out.typed hb
                  exact ⟨hB.ne_ HO3.out (by decide), hB.ne_ HX3.out (by decide), hB.ne_ (show Blk _ (g + 1 + 1) _ _ from HR3.out) (by decide)⟩
                have hdrw : Lst i64C w3 (.slice da dr.length dcap) dr := Lst.same (w := we) (HDR.out.chg HDCD.out fun b hb e => by
                  obtain ⟨cs, hB⟩ := HDR.out.typed hb
                  exact hB.ne_ (show Blk wd (g + 1 + 1) _ _ from HR.out) (by decide) e) HDR3.out
                have hdr4 : Lst i64C w4 (.slice da dr.length dcap) dr := hdrw.chg hc4 fun b hb e => by
                  obtain ⟨cs, hB⟩ := hdrw.typed hb
                  obtain ⟨cs', hB'⟩ := HL3.out.typed e
                  exact hB.ne_ hB' (by decide) rfl
                have ho4 := HO3.out.chg hc4 fun e => (hne g e).1 rfl
                have hx4 := HX3.out.chg hc4 fun e => (hne (g + 1) e).2.1 rfl
                have hr4 : RdAt w4 (g + 1 + 1) s k5 := Blk.chg HR3.out hc4 fun e => (hne (g + 1 + 1) e).2.2 rfl
                have hcw4 : Chg (fun _ => False) w w4 := HC3.out.trans hc4 fun b hb e => by
                  have := HOWN.out b e
                  omega
                have hown4 : ∀ b, v'.ownBlock = some b → w.heap.size ≤ b := fun b hb => by
                  rcases hk4 b hb with e | e
                  · exact HOWN.out b e
                  · have := HC3.out.size; omega
                obtain ⟨va, vc, rfl, _⟩ := place_form hl4
                have y0 := ho4.cell 0
                have f0 := ho4.frozen 0
                simp at y0
                have HO4 := Lib.hid ho4
                have HX4 := Lib.hid hx4
                have HR4 := Lib.hid hr4
                have HC4 := Lib.hid hcw4
                have HL4 := Lib.hid hl4
                have HOWN4 := Lib.hid hown4
                have HDR4 := Lib.hid hdr4
                clear ho4 hx4 hr4 hcw4 hl4 hown4 hne hc4 hk4 hdr4
                refine hK _ _ ?_
                clear hK K
                try simp only [Act.put, List.setIfInBounds_toArray, List.set_cons_zero, List.set_cons_succ]
                refine wpAny_ready (rs := [15]) (by kernel_rfl) (by simp) ?_
                refine AllReady.cons rfl (fun K hK => ?_) AllReady.nil
                go_simp
                refine hK _ _ ?_
                clear hK K
                try simp only [Act.put, List.setIfInBounds_toArray, List.set_cons_zero, List.set_cons_succ]
                refine wpAny_ready (rs := [16]) (by kernel_rfl) (by simp) ?_
                refine AllReady.cons rfl (fun K hK => ?_) AllReady.nil
                go_simp
                have hll : (acc ++ [(⟨l, ⟨f, z, ⟨lo.toArray⟩, ⟨hi.toArray⟩⟩⟩ : PlaceV)]).length = j + 1 := by simp [hacc]
                have ho4' := HO4.out
                have hl4' := HL4.out
                have hown4' := HOWN4.out
                rw [hll] at hl4' hown4'
                obtain ⟨w5, hw5⟩ : ∃ w5, w5 = w4.setCell ⟨g, 0, none⟩ (.slice va (j + 1) vc) := ⟨_, rfl⟩
                have ho5 : Blk w5 g 57 #[.slice va (j + 1) vc, .slice da dr.length dcap, .int .i64 log, .int .i64 next, .int .i64 seq] := by
                  rw [hw5]
                  simpa using ho4'.set_ 0 (.slice va (j + 1) vc)
                have hc5 : Chg (fun k => k = g) w4 w5 := by rw [hw5]; ((repeat (first | with_reducible exact Chg.refl _ _ | with_reducible assumption | with_reducible refine Chg.drewN ?_ _ | with_reducible refine Chg.drew ?_ | with_reducible refine Chg.alloc ?_ _ | with_reducible refine Chg.setCell ?_ (by first | (simp; done) | (simp; omega) | (intro h; simp at h; omega)) _)))
                have hl5 : Lst placeC w5 (.slice va (j + 1) vc) (acc ++ [⟨l, ⟨f, z, ⟨lo.toArray⟩, ⟨hi.toArray⟩⟩⟩]) := hl4'.chg hc5 fun b hb e => by
                  obtain ⟨cs, hB⟩ := hl4'.typed hb
                  exact hB.ne_ ho4' (by decide) e
                have hd5 : Lst i64C w5 (.slice da dr.length dcap) dr := HDR4.out.chg hc5 fun b hb e => by
                  obtain ⟨cs, hB⟩ := HDR4.out.typed hb
                  exact hB.ne_ ho4' (by decide) e
                rw [← hw5]
                have HO5 := Lib.hid ho5
                have HL5 := Lib.hid hl5
                have HD5 := Lib.hid hd5
                have HX5 := Lib.hid (HX4.out.chg hc5 (by omega))
                have HR5 := Lib.hid (show RdAt w5 (g + 1 + 1) s k5 from Blk.chg HR4.out hc5 (by omega))
                have HC5 := Lib.hid (HC4.out.trans hc5 fun k hk h => by have := HG.out; omega)
                have HW5 := Lib.hid hown4'
                clear hw5 ho5 hl5 hc5 hd5 ho4' hl4' hown4'
                refine hK _ _ ?_
                clear hK K
                refine wpAny_done (by kernel_rfl) ?_ _
                go_wp2_with fail
                exact ⟨⟨j + 1, k5, acc ++ [⟨l, ⟨f, z, ⟨lo.toArray⟩, ⟨hi.toArray⟩⟩⟩], _, by omega, by first | rfl | (simp; done), hlCD, hll, HEDN.out, HO5.out, HL5.out, HW5.out, HD5.out, HX5.out, HR5.out, HC5.out⟩, by simp [intOf]; omega⟩
              · skip
                go_simp
                refine (HTXT.out k3 (by omega) wb HRCB.out).mono ?_
                intro e wc h
                cases hvCC : textV L k3 with
                | inr c =>
                  rw [hvCC] at h
                  obtain ⟨rfl, hc0, hc1⟩ := h
                  have HED2 := Lib.hid (show editV L = .inr c by rw [HED.out, ed7, hm, addsV_step]; unfold placeV; rw [hvl]; simp only; rw [hvCA]; simp only; rw [hvCB]; simp only; rw [hvCC])
                  have HO := HOCB
                  have HX := HXCB
                  have HC := HCCB
                  go_simp
                  exact ⟨⟨c, _, rfl, HED2.out, hc0, HO.out.chg hc1 (by omega), rfl, HX.out.chg hc1 (by omega), HC.out.trans hc1 fun k hk h => by have := HG.out; omega⟩, rfl, rfl, rfl⟩
                | inl x =>
                obtain ⟨lo, k4⟩ := x
                rw [hvCC] at h
                obtain ⟨rfl, hR, hc1⟩ := h
                have hlCC := (textV_le (by rw [HLL.out]; omega) hvCC).2.1
                rw [HLL.out] at hlCC
                have HOCC := Lib.hid (HOCB.out.chg hc1 (by omega))
                have HLCC := Lib.hid (HLCB.out.chg hc1 fun b hb e => by
                  obtain ⟨cs, hB⟩ := HLCB.out.typed hb
                  exact hB.ne_ (show Blk wb (g + 1 + 1) _ _ from HRCB.out) (by decide) e)
                have HXCC := Lib.hid (HXCB.out.chg hc1 (by omega))
                have HRCC := Lib.hid hR
                have HCCC := Lib.hid (HCCB.out.trans hc1 fun k hk h => by have := HG.out; omega)
                have HDCC := Lib.hid (HDCB.out.then hc1)
                have y0 := HOCC.out.cell 0
                simp at y0
                clear hR hc1
                dsimp only
                refine hK _ _ ?_
                clear hK K
                try simp only [Act.put, List.setIfInBounds_toArray, List.set_cons_zero, List.set_cons_succ]
                refine wpAny_ready (rs := [1, 10]) (by kernel_rfl) (by simp) ?_
                refine AllReady.cons rfl (fun K hK => ?_) (AllReady.cons rfl (fun K hK => ?_) AllReady.nil)
                · skip
                  go_simp
                  refine hK _ _ ?_
                  clear hK K
                  try simp only [Act.put, List.setIfInBounds_toArray, List.set_cons_zero, List.set_cons_succ]
                  refine wpAny_ready (rs := [10]) (by kernel_rfl) (by simp) ?_
                  refine AllReady.cons rfl (fun K hK => ?_) AllReady.nil
                  go_simp
                  refine (HTXT.out k4 (by omega) wc HRCC.out).mono ?_
                  intro e we h
                  cases hvCD : textV L k4 with
                  | inr c =>
                    rw [hvCD] at h
                    obtain ⟨rfl, hc0, hc1⟩ := h
                    have HED2 := Lib.hid (show editV L = .inr c by rw [HED.out, ed7, hm, addsV_step]; unfold placeV; rw [hvl]; simp only; rw [hvCA]; simp only; rw [hvCB]; simp only; rw [hvCC]; simp only; rw [hvCD])
                    have HO := HOCC
                    have HX := HXCC
                    have HC := HCCC
                    go_simp
                    exact ⟨⟨c, _, rfl, HED2.out, hc0, HO.out.chg hc1 (by omega), rfl, HX.out.chg hc1 (by omega), HC.out.trans hc1 fun k hk h => by have := HG.out; omega⟩, rfl, rfl, rfl⟩
                  | inl x =>
                  obtain ⟨hi, k5⟩ := x
                  rw [hvCD] at h
                  obtain ⟨rfl, hR, hc1⟩ := h
                  have hlCD := (textV_le (by rw [HLL.out]; omega) hvCD).2.1
                  rw [HLL.out] at hlCD
                  have HOCD := Lib.hid (HOCC.out.chg hc1 (by omega))
                  have HLCD := Lib.hid (HLCC.out.chg hc1 fun b hb e => by
                    obtain ⟨cs, hB⟩ := HLCC.out.typed hb
                    exact hB.ne_ (show Blk wc (g + 1 + 1) _ _ from HRCC.out) (by decide) e)
                  have HXCD := Lib.hid (HXCC.out.chg hc1 (by omega))
                  have HRCD := Lib.hid hR
                  have HCCD := Lib.hid (HCCC.out.trans hc1 fun k hk h => by have := HG.out; omega)
                  have HDCD := Lib.hid (HDCC.out.then hc1)
                  have y0 := HOCD.out.cell 0
                  simp at y0
                  clear hR hc1
                  dsimp only
                  refine hK _ _ ?_
                  clear hK K
                  try simp only [Act.put, List.setIfInBounds_toArray, List.set_cons_zero, List.set_cons_succ]
                  refine wpAny_take (i := 11) (v := .agg #[.int .i64 f, .int .i64 z, .string ⟨lo.toArray⟩, .string ⟨hi.toArray⟩]) rfl (by kernel_rfl) (by kernel_rfl) (by kernel_rfl) (fun c a w h => fq_put (Q := fun _ _ _ => True) (by decide) (by decide) c a w h) (Or.inl ⟨by rfl, fun w => by go_simp⟩) ?_
                  try simp only [Act.put, List.setIfInBounds_toArray, List.set_cons_zero, List.set_cons_succ]
                  refine wpAny_take (i := 12) (v := .agg #[.int .i64 l, .int .i64 f, .int .i64 z, .string ⟨lo.toArray⟩, .string ⟨hi.toArray⟩]) rfl (by kernel_rfl) (by kernel_rfl) (by kernel_rfl) (fun c a w h => fq_put (Q := fun _ _ _ => True) (by decide) (by decide) c a w h) (Or.inl ⟨by rfl, fun w => by go_simp⟩) ?_
                  try simp only [Act.put, List.setIfInBounds_toArray, List.set_cons_zero, List.set_cons_succ]
                  refine wpAny_ready (rs := [13]) (by kernel_rfl) (by simp) ?_
                  refine AllReady.cons rfl (fun K hK => ?_) AllReady.nil
                  go_simp
                  obtain ⟨w3, hw3⟩ : ∃ w3, w3 = we.alloc (.cells #[.int .i64 l, .int .i64 f, .int .i64 z, .string ⟨lo.toArray⟩, .string ⟨hi.toArray⟩] 132) := ⟨_, rfl⟩
                  have hb3 : Blk w3 we.heap.size 132 #[.int .i64 l, .int .i64 f, .int .i64 z, .string ⟨lo.toArray⟩, .string ⟨hi.toArray⟩] := by rw [hw3]; exact Blk.new _ _ _
                  have hcb : Chg (fun _ => False) we w3 := by rw [hw3]; ((repeat (first | exact Chg.refl _ _ | assumption | refine Chg.drewN ?_ _ | refine Chg.drew ?_ | refine Chg.alloc ?_ _ | refine Chg.setCell ?_ (by first | (simp; done) | (simp; omega) | (intro h; simp at h; omega)) _)))
                  have HB3 := Lib.hid hb3
                  have HL3 := Lib.hid (HLCD.out.same hcb)
                  have HO3 := Lib.hid (HOCD.out.chg hcb (by simp))
                  have HX3 := Lib.hid (HXCD.out.chg hcb (by simp))
                  have HR3 := Lib.hid (show RdAt w3 (g + 1 + 1) s k5 from Blk.chg HRCD.out hcb (by simp))
                  have HC3 := Lib.hid (HCCD.out.then hcb)
                  have HDR3 := Lib.hid hcb
                  have y0 := HO3.out.cell 0
                  simp at y0
                  rw [← hw3]
                  clear hw3 hb3 hcb
                  refine hK _ _ ?_
                  clear hK K
                  try simp only [Act.put, List.setIfInBounds_toArray, List.set_cons_zero, List.set_cons_succ]
                  have hed2 : editV L = ed7 L log next seq dr (M - (j + 1)) k5 (acc ++ [⟨l, ⟨f, z, ⟨lo.toArray⟩, ⟨hi.toArray⟩⟩⟩]) := by
                    have e : M - (j + 1) = m := by omega
                    have hp : placeV L k = .inl (⟨l, ⟨f, z, ⟨lo.toArray⟩, ⟨hi.toArray⟩⟩⟩, k5) := by
                      unfold placeV
                      rw [hvl]; simp only
                      rw [hvCA]; simp only
                      rw [hvCB]; simp only
                      rw [hvCC]; simp only
                      rw [hvCD]
                    rw [HED.out, ed7, hm, addsV_step, hp, e, ed7]
                  have HEDN := Lib.hid hed2
                  clear hed2
                  refine wpAny_ready (rs := [14]) (by kernel_rfl) (by simp) ?_
                  refine AllReady.cons rfl (fun K hK => ?_) AllReady.nil
                  refine step_lst_app placeOk _ (by rfl) _ _ (by rfl) acc (.slice aa j acap) ⟨l, ⟨f, z, ⟨lo.toArray⟩, ⟨hi.toArray⟩⟩⟩ (by rfl) HL3.out we.heap.size (by rfl) (by omega) HB3.out ?_
                  intro v' w4 hl4 hc4 hk4
                  have hne : ∀ b, (Value.slice aa j acap).ownBlock = some b → b ≠ g ∧ b ≠ g + 1 ∧ b ≠ g + 1 + 1 := fun b hb => by
                    obtain ⟨cs, hB⟩ := HL3.out.typed hb
                    exact ⟨hB.ne_ HO3.out (by decide), hB.ne_ HX3.out (by decide), hB.ne_ (show Blk _ (g + 1 + 1) _ _ from HR3.out) (by decide)⟩
                  have hdrw : Lst i64C w3 (.slice da dr.length dcap) dr := Lst.same (w := we) (HDR.out.chg HDCD.out fun b hb e => by
                    obtain ⟨cs, hB⟩ := HDR.out.typed hb
                    exact hB.ne_ (show Blk wd (g + 1 + 1) _ _ from HR.out) (by decide) e) HDR3.out
                  have hdr4 : Lst i64C w4 (.slice da dr.length dcap) dr := hdrw.chg hc4 fun b hb e => by
                    obtain ⟨cs, hB⟩ := hdrw.typed hb
                    obtain ⟨cs', hB'⟩ := HL3.out.typed e
                    exact hB.ne_ hB' (by decide) rfl
                  have ho4 := HO3.out.chg hc4 fun e => (hne g e).1 rfl
                  have hx4 := HX3.out.chg hc4 fun e => (hne (g + 1) e).2.1 rfl
                  have hr4 : RdAt w4 (g + 1 + 1) s k5 := Blk.chg HR3.out hc4 fun e => (hne (g + 1 + 1) e).2.2 rfl
                  have hcw4 : Chg (fun _ => False) w w4 := HC3.out.trans hc4 fun b hb e => by
                    have := HOWN.out b e
                    omega
                  have hown4 : ∀ b, v'.ownBlock = some b → w.heap.size ≤ b := fun b hb => by
                    rcases hk4 b hb with e | e
                    · exact HOWN.out b e
                    · have := HC3.out.size; omega
                  obtain ⟨va, vc, rfl, _⟩ := place_form hl4
                  have y0 := ho4.cell 0
                  have f0 := ho4.frozen 0
                  simp at y0
                  have HO4 := Lib.hid ho4
                  have HX4 := Lib.hid hx4
                  have HR4 := Lib.hid hr4
                  have HC4 := Lib.hid hcw4
                  have HL4 := Lib.hid hl4
                  have HOWN4 := Lib.hid hown4
                  have HDR4 := Lib.hid hdr4
                  clear ho4 hx4 hr4 hcw4 hl4 hown4 hne hc4 hk4 hdr4
                  refine hK _ _ ?_
                  clear hK K
                  try simp only [Act.put, List.setIfInBounds_toArray, List.set_cons_zero, List.set_cons_succ]
                  refine wpAny_ready (rs := [15]) (by kernel_rfl) (by simp) ?_
                  refine AllReady.cons rfl (fun K hK => ?_) AllReady.nil
                  go_simp
                  refine hK _ _ ?_
                  clear hK K
                  try simp only [Act.put, List.setIfInBounds_toArray, List.set_cons_zero, List.set_cons_succ]
                  refine wpAny_ready (rs := [16]) (by kernel_rfl) (by simp) ?_
                  refine AllReady.cons rfl (fun K hK => ?_) AllReady.nil
                  go_simp
                  have hll : (acc ++ [(⟨l, ⟨f, z, ⟨lo.toArray⟩, ⟨hi.toArray⟩⟩⟩ : PlaceV)]).length = j + 1 := by simp [hacc]
                  have ho4' := HO4.out
                  have hl4' := HL4.out
                  have hown4' := HOWN4.out
                  rw [hll] at hl4' hown4'
                  obtain ⟨w5, hw5⟩ : ∃ w5, w5 = w4.setCell ⟨g, 0, none⟩ (.slice va (j + 1) vc) := ⟨_, rfl⟩
                  have ho5 : Blk w5 g 57 #[.slice va (j + 1) vc, .slice da dr.length dcap, .int .i64 log, .int .i64 next, .int .i64 seq] := by
                    rw [hw5]
                    simpa using ho4'.set_ 0 (.slice va (j + 1) vc)
                  have hc5 : Chg (fun k => k = g) w4 w5 := by rw [hw5]; ((repeat (first | with_reducible exact Chg.refl _ _ | with_reducible assumption | with_reducible refine Chg.drewN ?_ _ | with_reducible refine Chg.drew ?_ | with_reducible refine Chg.alloc ?_ _ | with_reducible refine Chg.setCell ?_ (by first | (simp; done) | (simp; omega) | (intro h; simp at h; omega)) _)))
                  have hl5 : Lst placeC w5 (.slice va (j + 1) vc) (acc ++ [⟨l, ⟨f, z, ⟨lo.toArray⟩, ⟨hi.toArray⟩⟩⟩]) := hl4'.chg hc5 fun b hb e => by
                    obtain ⟨cs, hB⟩ := hl4'.typed hb
                    exact hB.ne_ ho4' (by decide) e
                  have hd5 : Lst i64C w5 (.slice da dr.length dcap) dr := HDR4.out.chg hc5 fun b hb e => by
                    obtain ⟨cs, hB⟩ := HDR4.out.typed hb
                    exact hB.ne_ ho4' (by decide) e
                  rw [← hw5]
                  have HO5 := Lib.hid ho5
                  have HL5 := Lib.hid hl5
                  have HD5 := Lib.hid hd5
                  have HX5 := Lib.hid (HX4.out.chg hc5 (by omega))
                  have HR5 := Lib.hid (show RdAt w5 (g + 1 + 1) s k5 from Blk.chg HR4.out hc5 (by omega))
                  have HC5 := Lib.hid (HC4.out.trans hc5 fun k hk h => by have := HG.out; omega)
                  have HW5 := Lib.hid hown4'
                  clear hw5 ho5 hl5 hc5 hd5 ho4' hl4' hown4'
                  refine hK _ _ ?_
                  clear hK K
                  refine wpAny_done (by kernel_rfl) ?_ _
                  go_wp2_with fail
                  exact ⟨⟨j + 1, k5, acc ++ [⟨l, ⟨f, z, ⟨lo.toArray⟩, ⟨hi.toArray⟩⟩⟩], _, by omega, by first | rfl | (simp; done), hlCD, hll, HEDN.out, HO5.out, HL5.out, HW5.out, HD5.out, HX5.out, HR5.out, HC5.out⟩, by simp [intOf]; omega⟩
                · skip
                  go_simp
                  refine (HTXT.out k4 (by omega) wc HRCC.out).mono ?_
                  intro e we h
                  cases hvCD : textV L k4 with
                  | inr c =>
                    rw [hvCD] at h
                    obtain ⟨rfl, hc0, hc1⟩ := h
                    have HED2 := Lib.hid (show editV L = .inr c by rw [HED.out, ed7, hm, addsV_step]; unfold placeV; rw [hvl]; simp only; rw [hvCA]; simp only; rw [hvCB]; simp only; rw [hvCC]; simp only; rw [hvCD])
                    have HO := HOCC
                    have HX := HXCC
                    have HC := HCCC
                    go_simp
                    exact ⟨⟨c, _, rfl, HED2.out, hc0, HO.out.chg hc1 (by omega), rfl, HX.out.chg hc1 (by omega), HC.out.trans hc1 fun k hk h => by have := HG.out; omega⟩, rfl, rfl, rfl⟩
                  | inl x =>
                  obtain ⟨hi, k5⟩ := x
                  rw [hvCD] at h
                  obtain ⟨rfl, hR, hc1⟩ := h
                  have hlCD := (textV_le (by rw [HLL.out]; omega) hvCD).2.1
                  rw [HLL.out] at hlCD
                  have HOCD := Lib.hid (HOCC.out.chg hc1 (by omega))
                  have HLCD := Lib.hid (HLCC.out.chg hc1 fun b hb e => by
                    obtain ⟨cs, hB⟩ := HLCC.out.typed hb
                    exact hB.ne_ (show Blk wc (g + 1 + 1) _ _ from HRCC.out) (by decide) e)
                  have HXCD := Lib.hid (HXCC.out.chg hc1 (by omega))
                  have HRCD := Lib.hid hR
                  have HCCD := Lib.hid (HCCC.out.trans hc1 fun k hk h => by have := HG.out; omega)
                  have HDCD := Lib.hid (HDCC.out.then hc1)
                  have y0 := HOCD.out.cell 0
                  simp at y0
                  clear hR hc1
                  dsimp only
                  refine hK _ _ ?_
                  clear hK K
                  try simp only [Act.put, List.setIfInBounds_toArray, List.set_cons_zero, List.set_cons_succ]
                  refine wpAny_take (i := 11) (v := .agg #[.int .i64 f, .int .i64 z, .string ⟨lo.toArray⟩, .string ⟨hi.toArray⟩]) rfl (by kernel_rfl) (by kernel_rfl) (by kernel_rfl) (fun c a w h => fq_put (Q := fun _ _ _ => True) (by decide) (by decide) c a w h) (Or.inl ⟨by rfl, fun w => by go_simp⟩) ?_
                  try simp only [Act.put, List.setIfInBounds_toArray, List.set_cons_zero, List.set_cons_succ]
                  refine wpAny_take (i := 12) (v := .agg #[.int .i64 l, .int .i64 f, .int .i64 z, .string ⟨lo.toArray⟩, .string ⟨hi.toArray⟩]) rfl (by kernel_rfl) (by kernel_rfl) (by kernel_rfl) (fun c a w h => fq_put (Q := fun _ _ _ => True) (by decide) (by decide) c a w h) (Or.inl ⟨by rfl, fun w => by go_simp⟩) ?_
                  try simp only [Act.put, List.setIfInBounds_toArray, List.set_cons_zero, List.set_cons_succ]
                  refine wpAny_ready (rs := [1, 13]) (by kernel_rfl) (by simp) ?_
                  refine AllReady.cons rfl (fun K hK => ?_) (AllReady.cons rfl (fun K hK => ?_) AllReady.nil)
                  · skip
                    go_simp
                    refine hK _ _ ?_
                    clear hK K
                    try simp only [Act.put, List.setIfInBounds_toArray, List.set_cons_zero, List.set_cons_succ]
                    refine wpAny_ready (rs := [13]) (by kernel_rfl) (by simp) ?_
                    refine AllReady.cons rfl (fun K hK => ?_) AllReady.nil
                    go_simp
                    obtain ⟨w3, hw3⟩ : ∃ w3, w3 = we.alloc (.cells #[.int .i64 l, .int .i64 f, .int .i64 z, .string ⟨lo.toArray⟩, .string ⟨hi.toArray⟩] 132) := ⟨_, rfl⟩
                    have hb3 : Blk w3 we.heap.size 132 #[.int .i64 l, .int .i64 f, .int .i64 z, .string ⟨lo.toArray⟩, .string ⟨hi.toArray⟩] := by rw [hw3]; exact Blk.new _ _ _
                    have hcb : Chg (fun _ => False) we w3 := by rw [hw3]; ((repeat (first | exact Chg.refl _ _ | assumption | refine Chg.drewN ?_ _ | refine Chg.drew ?_ | refine Chg.alloc ?_ _ | refine Chg.setCell ?_ (by first | (simp; done) | (simp; omega) | (intro h; simp at h; omega)) _)))
                    have HB3 := Lib.hid hb3
                    have HL3 := Lib.hid (HLCD.out.same hcb)
                    have HO3 := Lib.hid (HOCD.out.chg hcb (by simp))
                    have HX3 := Lib.hid (HXCD.out.chg hcb (by simp))
                    have HR3 := Lib.hid (show RdAt w3 (g + 1 + 1) s k5 from Blk.chg HRCD.out hcb (by simp))
                    have HC3 := Lib.hid (HCCD.out.then hcb)
                    have HDR3 := Lib.hid hcb
                    have y0 := HO3.out.cell 0
                    simp at y0
                    rw [← hw3]
                    clear hw3 hb3 hcb
                    refine hK _ _ ?_
                    clear hK K
                    try simp only [Act.put, List.setIfInBounds_toArray, List.set_cons_zero, List.set_cons_succ]
                    have hed2 : editV L = ed7 L log next seq dr (M - (j + 1)) k5 (acc ++ [⟨l, ⟨f, z, ⟨lo.toArray⟩, ⟨hi.toArray⟩⟩⟩]) := by
                      have e : M - (j + 1) = m := by omega
                      have hp : placeV L k = .inl (⟨l, ⟨f, z, ⟨lo.toArray⟩, ⟨hi.toArray⟩⟩⟩, k5) := by
                        unfold placeV
                        rw [hvl]; simp only
                        rw [hvCA]; simp only
                        rw [hvCB]; simp only
                        rw [hvCC]; simp only
                        rw [hvCD]
                      rw [HED.out, ed7, hm, addsV_step, hp, e, ed7]
                    have HEDN := Lib.hid hed2
                    clear hed2
                    refine wpAny_ready (rs := [14]) (by kernel_rfl) (by simp) ?_
                    refine AllReady.cons rfl (fun K hK => ?_) AllReady.nil
                    refine step_lst_app placeOk _ (by rfl) _ _ (by rfl) acc (.slice aa j acap) ⟨l, ⟨f, z, ⟨lo.toArray⟩, ⟨hi.toArray⟩⟩⟩ (by rfl) HL3.out we.heap.size (by rfl) (by omega) HB3.out ?_
                    intro v' w4 hl4 hc4 hk4
                    have hne : ∀ b, (Value.slice aa j acap).ownBlock = some b → b ≠ g ∧ b ≠ g + 1 ∧ b ≠ g + 1 + 1 := fun b hb => by
                      obtain ⟨cs, hB⟩ := HL3.out.typed hb
                      exact ⟨hB.ne_ HO3.out (by decide), hB.ne_ HX3.out (by decide), hB.ne_ (show Blk _ (g + 1 + 1) _ _ from HR3.out) (by decide)⟩
                    have hdrw : Lst i64C w3 (.slice da dr.length dcap) dr := Lst.same (w := we) (HDR.out.chg HDCD.out fun b hb e => by
                      obtain ⟨cs, hB⟩ := HDR.out.typed hb
                      exact hB.ne_ (show Blk wd (g + 1 + 1) _ _ from HR.out) (by decide) e) HDR3.out
                    have hdr4 : Lst i64C w4 (.slice da dr.length dcap) dr := hdrw.chg hc4 fun b hb e => by
                      obtain ⟨cs, hB⟩ := hdrw.typed hb
                      obtain ⟨cs', hB'⟩ := HL3.out.typed e
                      exact hB.ne_ hB' (by decide) rfl
                    have ho4 := HO3.out.chg hc4 fun e => (hne g e).1 rfl
                    have hx4 := HX3.out.chg hc4 fun e => (hne (g + 1) e).2.1 rfl
                    have hr4 : RdAt w4 (g + 1 + 1) s k5 := Blk.chg HR3.out hc4 fun e => (hne (g + 1 + 1) e).2.2 rfl
                    have hcw4 : Chg (fun _ => False) w w4 := HC3.out.trans hc4 fun b hb e => by
                      have := HOWN.out b e
                      omega
                    have hown4 : ∀ b, v'.ownBlock = some b → w.heap.size ≤ b := fun b hb => by
                      rcases hk4 b hb with e | e
                      · exact HOWN.out b e
                      · have := HC3.out.size; omega
                    obtain ⟨va, vc, rfl, _⟩ := place_form hl4
                    have y0 := ho4.cell 0
                    have f0 := ho4.frozen 0
                    simp at y0
                    have HO4 := Lib.hid ho4
                    have HX4 := Lib.hid hx4
                    have HR4 := Lib.hid hr4
                    have HC4 := Lib.hid hcw4
                    have HL4 := Lib.hid hl4
                    have HOWN4 := Lib.hid hown4
                    have HDR4 := Lib.hid hdr4
                    clear ho4 hx4 hr4 hcw4 hl4 hown4 hne hc4 hk4 hdr4
                    refine hK _ _ ?_
                    clear hK K
                    try simp only [Act.put, List.setIfInBounds_toArray, List.set_cons_zero, List.set_cons_succ]
                    refine wpAny_ready (rs := [15]) (by kernel_rfl) (by simp) ?_
                    refine AllReady.cons rfl (fun K hK => ?_) AllReady.nil
                    go_simp
                    refine hK _ _ ?_
                    clear hK K
                    try simp only [Act.put, List.setIfInBounds_toArray, List.set_cons_zero, List.set_cons_succ]
                    refine wpAny_ready (rs := [16]) (by kernel_rfl) (by simp) ?_
                    refine AllReady.cons rfl (fun K hK => ?_) AllReady.nil
                    go_simp
                    have hll : (acc ++ [(⟨l, ⟨f, z, ⟨lo.toArray⟩, ⟨hi.toArray⟩⟩⟩ : PlaceV)]).length = j + 1 := by simp [hacc]
                    have ho4' := HO4.out
                    have hl4' := HL4.out
                    have hown4' := HOWN4.out
                    rw [hll] at hl4' hown4'
                    obtain ⟨w5, hw5⟩ : ∃ w5, w5 = w4.setCell ⟨g, 0, none⟩ (.slice va (j + 1) vc) := ⟨_, rfl⟩
                    have ho5 : Blk w5 g 57 #[.slice va (j + 1) vc, .slice da dr.length dcap, .int .i64 log, .int .i64 next, .int .i64 seq] := by
                      rw [hw5]
                      simpa using ho4'.set_ 0 (.slice va (j + 1) vc)
                    have hc5 : Chg (fun k => k = g) w4 w5 := by rw [hw5]; ((repeat (first | with_reducible exact Chg.refl _ _ | with_reducible assumption | with_reducible refine Chg.drewN ?_ _ | with_reducible refine Chg.drew ?_ | with_reducible refine Chg.alloc ?_ _ | with_reducible refine Chg.setCell ?_ (by first | (simp; done) | (simp; omega) | (intro h; simp at h; omega)) _)))
                    have hl5 : Lst placeC w5 (.slice va (j + 1) vc) (acc ++ [⟨l, ⟨f, z, ⟨lo.toArray⟩, ⟨hi.toArray⟩⟩⟩]) := hl4'.chg hc5 fun b hb e => by
                      obtain ⟨cs, hB⟩ := hl4'.typed hb
                      exact hB.ne_ ho4' (by decide) e
                    have hd5 : Lst i64C w5 (.slice da dr.length dcap) dr := HDR4.out.chg hc5 fun b hb e => by
                      obtain ⟨cs, hB⟩ := HDR4.out.typed hb
                      exact hB.ne_ ho4' (by decide) e
                    rw [← hw5]
                    have HO5 := Lib.hid ho5
                    have HL5 := Lib.hid hl5
                    have HD5 := Lib.hid hd5
                    have HX5 := Lib.hid (HX4.out.chg hc5 (by omega))
                    have HR5 := Lib.hid (show RdAt w5 (g + 1 + 1) s k5 from Blk.chg HR4.out hc5 (by omega))
                    have HC5 := Lib.hid (HC4.out.trans hc5 fun k hk h => by have := HG.out; omega)
                    have HW5 := Lib.hid hown4'
                    clear hw5 ho5 hl5 hc5 hd5 ho4' hl4' hown4'
                    refine hK _ _ ?_
                    clear hK K
                    refine wpAny_done (by kernel_rfl) ?_ _
                    go_wp2_with fail
                    exact ⟨⟨j + 1, k5, acc ++ [⟨l, ⟨f, z, ⟨lo.toArray⟩, ⟨hi.toArray⟩⟩⟩], _, by omega, by first | rfl | (simp; done), hlCD, hll, HEDN.out, HO5.out, HL5.out, HW5.out, HD5.out, HX5.out, HR5.out, HC5.out⟩, by simp [intOf]; omega⟩
                  · skip
                    go_simp
                    obtain ⟨w3, hw3⟩ : ∃ w3, w3 = we.alloc (.cells #[.int .i64 l, .int .i64 f, .int .i64 z, .string ⟨lo.toArray⟩, .string ⟨hi.toArray⟩] 132) := ⟨_, rfl⟩
                    have hb3 : Blk w3 we.heap.size 132 #[.int .i64 l, .int .i64 f, .int .i64 z, .string ⟨lo.toArray⟩, .string ⟨hi.toArray⟩] := by rw [hw3]; exact Blk.new _ _ _
                    have hcb : Chg (fun _ => False) we w3 := by rw [hw3]; ((repeat (first | exact Chg.refl _ _ | assumption | refine Chg.drewN ?_ _ | refine Chg.drew ?_ | refine Chg.alloc ?_ _ | refine Chg.setCell ?_ (by first | (simp; done) | (simp; omega) | (intro h; simp at h; omega)) _)))
                    have HB3 := Lib.hid hb3
                    have HL3 := Lib.hid (HLCD.out.same hcb)
                    have HO3 := Lib.hid (HOCD.out.chg hcb (by simp))
                    have HX3 := Lib.hid (HXCD.out.chg hcb (by simp))
                    have HR3 := Lib.hid (show RdAt w3 (g + 1 + 1) s k5 from Blk.chg HRCD.out hcb (by simp))
                    have HC3 := Lib.hid (HCCD.out.then hcb)
                    have HDR3 := Lib.hid hcb
                    have y0 := HO3.out.cell 0
                    simp at y0
                    rw [← hw3]
                    clear hw3 hb3 hcb
                    refine hK _ _ ?_
                    clear hK K
                    try simp only [Act.put, List.setIfInBounds_toArray, List.set_cons_zero, List.set_cons_succ]
                    refine wpAny_ready (rs := [1]) (by kernel_rfl) (by simp) ?_
                    refine AllReady.cons rfl (fun K hK => ?_) AllReady.nil
                    go_simp
                    refine hK _ _ ?_
                    clear hK K
                    try simp only [Act.put, List.setIfInBounds_toArray, List.set_cons_zero, List.set_cons_succ]
                    have hed2 : editV L = ed7 L log next seq dr (M - (j + 1)) k5 (acc ++ [⟨l, ⟨f, z, ⟨lo.toArray⟩, ⟨hi.toArray⟩⟩⟩]) := by
                      have e : M - (j + 1) = m := by omega
                      have hp : placeV L k = .inl (⟨l, ⟨f, z, ⟨lo.toArray⟩, ⟨hi.toArray⟩⟩⟩, k5) := by
                        unfold placeV
                        rw [hvl]; simp only
                        rw [hvCA]; simp only
                        rw [hvCB]; simp only
                        rw [hvCC]; simp only
                        rw [hvCD]
                      rw [HED.out, ed7, hm, addsV_step, hp, e, ed7]
                    have HEDN := Lib.hid hed2
                    clear hed2
                    refine wpAny_ready (rs := [14]) (by kernel_rfl) (by simp) ?_
                    refine AllReady.cons rfl (fun K hK => ?_) AllReady.nil
                    refine step_lst_app placeOk _ (by rfl) _ _ (by rfl) acc (.slice aa j acap) ⟨l, ⟨f, z, ⟨lo.toArray⟩, ⟨hi.toArray⟩⟩⟩ (by rfl) HL3.out we.heap.size (by rfl) (by omega) HB3.out ?_
                    intro v' w4 hl4 hc4 hk4
                    have hne : ∀ b, (Value.slice aa j acap).ownBlock = some b → b ≠ g ∧ b ≠ g + 1 ∧ b ≠ g + 1 + 1 := fun b hb => by
                      obtain ⟨cs, hB⟩ := HL3.out.typed hb
                      exact ⟨hB.ne_ HO3.out (by decide), hB.ne_ HX3.out (by decide), hB.ne_ (show Blk _ (g + 1 + 1) _ _ from HR3.out) (by decide)⟩
                    have hdrw : Lst i64C w3 (.slice da dr.length dcap) dr := Lst.same (w := we) (HDR.out.chg HDCD.out fun b hb e => by
                      obtain ⟨cs, hB⟩ := HDR.out.typed hb
                      exact hB.ne_ (show Blk wd (g + 1 + 1) _ _ from HR.out) (by decide) e) HDR3.out
                    have hdr4 : Lst i64C w4 (.slice da dr.length dcap) dr := hdrw.chg hc4 fun b hb e => by
                      obtain ⟨cs, hB⟩ := hdrw.typed hb
                      obtain ⟨cs', hB'⟩ := HL3.out.typed e
                      exact hB.ne_ hB' (by decide) rfl
                    have ho4 := HO3.out.chg hc4 fun e => (hne g e).1 rfl
                    have hx4 := HX3.out.chg hc4 fun e => (hne (g + 1) e).2.1 rfl
                    have hr4 : RdAt w4 (g + 1 + 1) s k5 := Blk.chg HR3.out hc4 fun e => (hne (g + 1 + 1) e).2.2 rfl
                    have hcw4 : Chg (fun _ => False) w w4 := HC3.out.trans hc4 fun b hb e => by
                      have := HOWN.out b e
                      omega
                    have hown4 : ∀ b, v'.ownBlock = some b → w.heap.size ≤ b := fun b hb => by
                      rcases hk4 b hb with e | e
                      · exact HOWN.out b e
                      · have := HC3.out.size; omega
                    obtain ⟨va, vc, rfl, _⟩ := place_form hl4
                    have y0 := ho4.cell 0
                    have f0 := ho4.frozen 0
                    simp at y0
                    have HO4 := Lib.hid ho4
                    have HX4 := Lib.hid hx4
                    have HR4 := Lib.hid hr4
                    have HC4 := Lib.hid hcw4
                    have HL4 := Lib.hid hl4
                    have HOWN4 := Lib.hid hown4
                    have HDR4 := Lib.hid hdr4
                    clear ho4 hx4 hr4 hcw4 hl4 hown4 hne hc4 hk4 hdr4
                    refine hK _ _ ?_
                    clear hK K
                    try simp only [Act.put, List.setIfInBounds_toArray, List.set_cons_zero, List.set_cons_succ]
                    refine wpAny_ready (rs := [15]) (by kernel_rfl) (by simp) ?_
                    refine AllReady.cons rfl (fun K hK => ?_) AllReady.nil
                    go_simp
                    refine hK _ _ ?_
                    clear hK K
                    try simp only [Act.put, List.setIfInBounds_toArray, List.set_cons_zero, List.set_cons_succ]
                    refine wpAny_ready (rs := [16]) (by kernel_rfl) (by simp) ?_
                    refine AllReady.cons rfl (fun K hK => ?_) AllReady.nil
                    go_simp
                    have hll : (acc ++ [(⟨l, ⟨f, z, ⟨lo.toArray⟩, ⟨hi.toArray⟩⟩⟩ : PlaceV)]).length = j + 1 := by simp [hacc]
                    have ho4' := HO4.out
                    have hl4' := HL4.out
                    have hown4' := HOWN4.out
                    rw [hll] at hl4' hown4'
                    obtain ⟨w5, hw5⟩ : ∃ w5, w5 = w4.setCell ⟨g, 0, none⟩ (.slice va (j + 1) vc) := ⟨_, rfl⟩
                    have ho5 : Blk w5 g 57 #[.slice va (j + 1) vc, .slice da dr.length dcap, .int .i64 log, .int .i64 next, .int .i64 seq] := by
                      rw [hw5]
                      simpa using ho4'.set_ 0 (.slice va (j + 1) vc)
                    have hc5 : Chg (fun k => k = g) w4 w5 := by rw [hw5]; ((repeat (first | with_reducible exact Chg.refl _ _ | with_reducible assumption | with_reducible refine Chg.drewN ?_ _ | with_reducible refine Chg.drew ?_ | with_reducible refine Chg.alloc ?_ _ | with_reducible refine Chg.setCell ?_ (by first | (simp; done) | (simp; omega) | (intro h; simp at h; omega)) _)))
                    have hl5 : Lst placeC w5 (.slice va (j + 1) vc) (acc ++ [⟨l, ⟨f, z, ⟨lo.toArray⟩, ⟨hi.toArray⟩⟩⟩]) := hl4'.chg hc5 fun b hb e => by
                      obtain ⟨cs, hB⟩ := hl4'.typed hb
                      exact hB.ne_ ho4' (by decide) e
                    have hd5 : Lst i64C w5 (.slice da dr.length dcap) dr := HDR4.out.chg hc5 fun b hb e => by
                      obtain ⟨cs, hB⟩ := HDR4.out.typed hb
                      exact hB.ne_ ho4' (by decide) e
                    rw [← hw5]
                    have HO5 := Lib.hid ho5
                    have HL5 := Lib.hid hl5
                    have HD5 := Lib.hid hd5
                    have HX5 := Lib.hid (HX4.out.chg hc5 (by omega))
                    have HR5 := Lib.hid (show RdAt w5 (g + 1 + 1) s k5 from Blk.chg HR4.out hc5 (by omega))
                    have HC5 := Lib.hid (HC4.out.trans hc5 fun k hk h => by have := HG.out; omega)
                    have HW5 := Lib.hid hown4'
                    clear hw5 ho5 hl5 hc5 hd5 ho4' hl4' hown4'
                    refine hK _ _ ?_
                    clear hK K
                    refine wpAny_done (by kernel_rfl) ?_ _
                    go_wp2_with fail
                    exact ⟨⟨j + 1, k5, acc ++ [⟨l, ⟨f, z, ⟨lo.toArray⟩, ⟨hi.toArray⟩⟩⟩], _, by omega, by first | rfl | (simp; done), hlCD, hll, HEDN.out, HO5.out, HL5.out, HW5.out, HD5.out, HX5.out, HR5.out, HC5.out⟩, by simp [intOf]; omega⟩
        · obtain rfl : j = M := by omega
          have hlt : ¬ (j : Int) < (j : Int) := by omega
          have hed2 : editV L = if k < L.length then .inr 4 else .inl ⟨acc, dr, log, next, seq⟩ := by rw [HED.out, Nat.sub_self, ed7, addsV]
          rw [HLL.out] at hed2
          have z1 := HR.out.cell 1
          simp at z1
          by_cases hks : k < s.size
          · have hlt2 : (k : Int) < (s.size : Int) := by omega
            rw [if_pos hks] at hed2
            have HED2 := Lib.hid hed2
            clear hed2 hks
            go_wp2_with fail
            refine (ve_must_no 4 (by decide) wq).mono ?_
            rintro e w2 ⟨rfl, rfl⟩
            go_wp2_with fail
            have hc0 : (4 : Int) ≠ 0 := by decide
            obtain ⟨c, hc⟩ : ∃ c : Int, c = 4 := ⟨_, rfl⟩
            exact ⟨⟨4, _, rfl, HED2.out, hc0, HO.out, rfl, HX.out, HC.out⟩, rfl, rfl, rfl⟩
          · have hlt2 : ¬ (k : Int) < (s.size : Int) := by omega
            rw [if_neg hks] at hed2
            have HED2 := Lib.hid hed2
            clear hed2 hks
            have y0 := HO.out.cell 0
            have y1 := HO.out.cell 1
            have y2 := HO.out.cell 2
            have y3 := HO.out.cell 3
            have y4 := HO.out.cell 4
            have f0 := HO.out.frozen 0
            have f1 := HO.out.frozen 1
            have f2 := HO.out.frozen 2
            have f3 := HO.out.frozen 3
            have f4 := HO.out.frozen 4
            have x0 := HX.out.cell 0
            have g0 := HX.out.frozen 0
            simp at y0 y1 y2 y3 y4 x0
            go_wp2_with fail
            have hcs : Chg (fun k => k = g ∨ k = g + 1) wq ((((((wq.setCell ⟨g, 0, none⟩ (.slice aa j acap)).setCell ⟨g, 1, none⟩ (.slice da dr.length dcap)).setCell ⟨g, 2, none⟩ (.int .i64 log)).setCell ⟨g, 3, none⟩ (.int .i64 next)).setCell ⟨g, 4, none⟩ (.int .i64 seq)).setCell ⟨g + 1, 0, none⟩ (.int .i64 0)) := by ((repeat (first | with_reducible exact Chg.refl _ _ | with_reducible assumption | with_reducible refine Chg.drewN ?_ _ | with_reducible refine Chg.drew ?_ | with_reducible refine Chg.alloc ?_ _ | with_reducible refine Chg.setCell ?_ (by first | (simp; done) | (simp; omega) | (intro h; simp at h; omega)) _)))
            obtain ⟨wz, hwz⟩ : ∃ wz, wz = (((((wq.setCell ⟨g, 0, none⟩ (.slice aa j acap)).setCell ⟨g, 1, none⟩ (.slice da dr.length dcap)).setCell ⟨g, 2, none⟩ (.int .i64 log)).setCell ⟨g, 3, none⟩ (.int .i64 next)).setCell ⟨g, 4, none⟩ (.int .i64 seq)).setCell ⟨g + 1, 0, none⟩ (.int .i64 0) := ⟨_, rfl⟩
            rw [← hwz] at hcs
            rw [← hdl, ← hwz]
            have hoz : Blk wz g 57 #[.slice aa j acap, .slice da dr.length dcap, .int .i64 log, .int .i64 next, .int .i64 seq] := by
              rw [hwz]
              have := (((((HO.out.set_ 0 (.slice aa j acap)).set_ 1 (.slice da dr.length dcap)).set_ 2 (.int .i64 log)).set_ 3 (.int .i64 next)).set_ 4 (.int .i64 seq)).far (p := ⟨g + 1, 0, none⟩) (by simp) (.int .i64 0)
              simpa using this
            have hxz : Blk wz (g + 1) 36 #[.int .i64 0] := by
              rw [hwz]
              have := (((((HX.out.far (p := ⟨g, 0, none⟩) (by simp) (.slice aa j acap)).far (p := ⟨g, 1, none⟩) (by simp) (.slice da dr.length dcap)).far (p := ⟨g, 2, none⟩) (by simp) (.int .i64 log)).far (p := ⟨g, 3, none⟩) (by simp) (.int .i64 next)).far (p := ⟨g, 4, none⟩) (by simp) (.int .i64 seq)).set_ 0 (.int .i64 0)
              simpa using this
            have hlz : Lst placeC wz (.slice aa j acap) acc := HL.out.chg hcs fun b hb e => by
              obtain ⟨cs, hB⟩ := HL.out.typed hb
              rcases e with e | e
              · exact hB.ne_ HO.out (by decide) e
              · exact hB.ne_ HX.out (by decide) e
            have hdz : Lst i64C wz (.slice da dr.length dcap) dr := HDR.out.chg hcs fun b hb e => by
              obtain ⟨cs, hB⟩ := HDR.out.typed hb
              rcases e with e | e
              · exact hB.ne_ HO.out (by decide) e
              · exact hB.ne_ HX.out (by decide) e
            have hcz := HC.out.trans hcs fun k hk h => by have := HG.out; omega
            have y0 := hoz.cell 0
            have y1 := hoz.cell 1
            have y2 := hoz.cell 2
            have y3 := hoz.cell 3
            have y4 := hoz.cell 4
            have x0 := hxz.cell 0
            simp at y0 y1 y2 y3 y4 x0
            show Leaves Tryz.prog _ _ _ _ .returning wz
            refine leaves_cons (f := 120) (args := #[.pointer (some ⟨g, 0, none⟩), .pointer (some ⟨g + 1, 0, none⟩)]) (by simp) (by simp [go_sem]) ?_
            refine (get_idle g wz).mono ?_
            rintro e u' w'' ⟨rfl, rfl, rfl⟩
            simp only [Leaves, settle]
            refine ⟨.tuple #[.agg #[.slice aa j acap, .slice da dr.length dcap, .int .i64 log, .int .i64 next, .int .i64 seq], .int .i64 0], ?_, ?_, hcz⟩
            · simp [results, Tryz.results58, go_sem, y0, y1, y2, y3, y4, x0]
            · unfold EditAt
              rw [HED2.out]
              exact ⟨_, _, rfl, hlz, hdz⟩
end Go.Proofs.YtahahginmgidjaaGreatDoor
