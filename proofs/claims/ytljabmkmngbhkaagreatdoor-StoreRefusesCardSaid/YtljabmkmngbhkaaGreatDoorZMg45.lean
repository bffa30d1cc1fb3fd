/-
  Close: the store's once.
  A region that draws its order: when the order of its text serves every order, told by a test that looks at each pair of operations once. Plain; no condition.
-/
import Derived.Test.YtljabmkmngbhkaaGreatDoorZMg44
import Derived.Test.YtljabmkmngbhkaaGreatDoorZStoG
import Derived.Test.YtljabmkmngbhkaaGreatDoorZMg25
import Derived.Deep.RegionHeld3
import Derived.Test.YtljabmkmngbhkaaGreatDoorZMg00
import Derived.Deep.Quiet
import Derived.Still
namespace Go.Proofs.YtljabmkmngbhkaaGreatDoor
open Go.RowKit
set_option linter.unusedVariables false
set_option linter.unusedSimpArgs false

theorem keys_form0 {w : World} {base : Nat} {v : Value} {n : Nat} {xs : List Value} (h : w.ownsRow base 127 2 v n xs) :
    ∃ a cap, v = .slice a n cap ∧ n ≤ 9223372036854775807 ∧ (0 < n → ∃ b, a = some ⟨b, 0, none⟩ ∧ base ≤ b ∧ b < w.heap.size ∧ (∃ cs, Blk w b 127 cs) ∧ ∀ i x, xs[i]? = some x → w.cell? ⟨b, i, none⟩ = some x) := by
  have h' := h
  rcases h.2 with ⟨rfl, hn⟩ | ⟨g, cap, cur, rfl, hg, hh, hn, hm, hsz, htake⟩
  · exact ⟨none, 0, by rw [hn], by omega, fun h => by omega⟩
  · unfold maxLen at hm
    refine ⟨_, cap, rfl, by omega, fun _ => ⟨g, rfl, hg, ?_, ⟨_, hh⟩, fun i x hx => ?_⟩⟩
    · exact (show Blk w g _ _ from hh).lt
    have hc := h'.cells (g := g) rfl
    have := hc i x hx
    have e : (⟨g, 0, none⟩ : Addr).add i = ⟨g, i, none⟩ := by unfold Addr.add; split <;> (first | (simp; done) | (simp; omega))
    rw [e] at this
    exact this

def closeS (S : StV) : StV := forgetS { S with closed := true }
set_option maxRecDepth 100000 in
set_option maxHeartbeats 2000000 in
theorem cl_body (w0 w : World) (p : StP) (Y : Nat → Prop) (F : CfgV) (S : StV) (h : StAt w0 w p Y F S) (v : Nat) (hpl : w.cell? ⟨v, 0, none⟩ = some (.pointer (some ⟨p.s, 0, none⟩))) (hs : v ≠ p.s) (hb : v ≠ p.b) :
    Calls Tryz.prog 54 #[.pointer (some ⟨v, 0, none⟩)] w fun e w' => e = .returned (.tuple #[]) ∧ SPostY w0 p Y F (closeS S) w' := by
  obtain ⟨w1, hw1⟩ : ∃ w1, w1 = w.setCell ⟨p.s, 30, none⟩ (.bool true) := ⟨_, rfl⟩
  have hc1 : Chg (fun k => k = p.s) w w1 := by rw [hw1]; exact Chg.setCell (S := fun k => k = p.s) (Chg.refl _ _) (p := ⟨p.s, 30, none⟩) (fun _ => rfl) _
  have hs1 := h.blk.set_ 30 (.bool true)
  rw [← hw1] at hs1
  have hat1 : StAt w0 w1 p Y F { S with closed := true } := h.own hc1 (by simpa [stCells] using hs1) rfl rfl rfl rfl rfl rfl rfl
  have y30 := h.blk.cell 30
  have f30 := h.blk.frozen 30
  simp [stCells] at y30
  have hv1 : w1.cell? ⟨v, 0, none⟩ = some (.pointer (some ⟨p.s, 0, none⟩)) := (hc1.cell (p := ⟨v, 0, none⟩) (World.block_lt_of_cell? w _ hpl) hs).trans hpl
  have hfo := st_forget w0 w1 p Y F _ hat1
  have hvl := World.block_lt_of_cell? w1 _ hv1
  have HFO := Lib.hid hfo
  have HW1 := Lib.hid hw1
  clear hfo hw1
  clear hc1 hs1 hat1 h
  go_enter Tryz.func54, Tryz.ntmps54
  go_upto_region 1 with fail
  rw [← HW1.out]
  clear y30 f30 hpl
  go_wp2_with fail
  refine HFO.out.mono ?_
  rintro e w2 ⟨rfl, ⟨p', Y', e1, e2, e3, hYY, hat2⟩, hc2⟩
  have hv2 : w2.cell? ⟨v, 0, none⟩ = some (.pointer (some ⟨p.s, 0, none⟩)) := (hc2.cell (p := ⟨v, 0, none⟩) hvl (by rintro (e | e); exact hs e; exact hb e)).trans hv1
  have y11 := hat2.blk.cell 11
  rw [e1] at y11
  simp [stCells] at y11
  have hk := fun W (hW : Chg (fun _ => False) w2 W) => cache_kept p'.c p'.b p'.m [] _ W (hat2.same hW).cache
  have hfin : ∀ W, Chg (fun _ => False) w2 W → SPostY w0 p Y F (closeS S) W := fun W hW => ⟨p', Y', e1, e2, e3, hYY, hat2.same hW⟩
  have HK := Lib.hid hk
  have HFIN := Lib.hid hfin
  clear hk hfin
  clear hat2 hc2 hv1 e1 e2 e3
  go_wp2_with fail
  refine (HK.out _ (Chg.refl _ _)).mono ?_
  rintro e w3 ⟨v3, rfl, hown, hc3⟩
  obtain ⟨a3, cap3, rfl, _, _⟩ := keys_form0 hown
  have HC3 := Lib.hid hc3
  clear hc3
  clear hown hv2 y11
  go_wp2_with fail
  go_loopw [14] (fun i wr => i = .int .i64 0 ∧ w3 = wr) (fun _ _ => 0)
  case atStart => exact ⟨rfl, rfl⟩
  case round =>
    obtain ⟨rfl, rfl⟩ := hrel
    have hf := HFIN.out _ HC3.out
    have HF := Lib.hid hf
    clear hf
    go_wp2_with fail
    go_end0
    exact ⟨rfl, HF.out⟩
/-- The once, not yet done, the lock free. -/
def doneS (S : StV) : StV := { closeS { S with lock := 1 } with done := 1, lock := 0 }
theorem done_fin {w0 w2 : World} {p : StP} {Y : Nat → Prop} {F : CfgV} {S : StV} (h : SPostY w0 p Y F (closeS { S with lock := 1 }) w2) : SPostY w0 p Y F (doneS S) ((w2.drew.setCell ⟨p.s, 31, none⟩ (.int .u32 1)).setCell ⟨p.s, 32, none⟩ (.int .i32 0)) := by
  obtain ⟨p', Y', e1, e2, e3, hY, hat⟩ := h
  refine ⟨p', Y', e1, e2, e3, hY, ?_⟩
  have h1 := hat.same (show Chg (fun _ => False) w2 w2.drew from Chg.drew (Chg.refl _ _))
  have hb := (h1.blk.set_ 31 (.int .u32 1)).set_ 32 (.int .i32 0)
  rw [← e1]
  refine h1.own (Chg.setCell (S := fun k => k = p'.s) (Chg.setCell (S := fun k => k = p'.s) (Chg.refl _ _) (p := ⟨p'.s, 31, none⟩) (fun _ => rfl) _) (p := ⟨p'.s, 32, none⟩) (fun _ => rfl) _) ?_ rfl rfl rfl rfl rfl rfl rfl
  simpa [stCells, doneS] using hb
theorem done_cells {w0 w2 : World} {p : StP} {Y : Nat → Prop} {F : CfgV} {S : StV} (h : SPostY w0 p Y F (closeS { S with lock := 1 }) w2) (h0 : S.done = 0) : w2.cell? ⟨p.s, 31, none⟩ = some (.int .u32 0) ∧ w2.cell? ⟨p.s, 32, none⟩ = some (.int .i32 1) ∧ w2.frozen? ⟨p.s, 31, none⟩ = false ∧ w2.frozen? ⟨p.s, 32, none⟩ = false := by
  obtain ⟨p', Y', e1, e2, e3, hY, hat⟩ := h
  rw [← e1]
  have c1 := hat.blk.cell 31
  have c2 := hat.blk.cell 32
  simp [stCells, closeS, forgetS, h0] at c1 c2
  exact ⟨c1, c2, hat.blk.frozen 31, hat.blk.frozen 32⟩
set_option maxRecDepth 100000 in
set_option maxHeartbeats 2000000 in
theorem on_slow (w0 w : World) (p : StP) (Y : Nat → Prop) (F : CfgV) (S : StV) (h : StAt w0 w p Y F S) (h0 : S.done = 0) (hk : S.lock = 0) (v : Nat) (hpl : w.cell? ⟨v, 0, none⟩ = some (.pointer (some ⟨p.s, 0, none⟩))) (hs : v ≠ p.s) (hb : v ≠ p.b) :
    Calls Tryz.prog 129 #[.pointer (some ⟨p.s, 31, none⟩), .func (.func 54) #[] #[.pointer (some ⟨v, 0, none⟩)]] w fun e w' => e = .returned (.tuple #[]) ∧ SPostY w0 p Y F (doneS S) w' := by
  obtain ⟨w1, hw1⟩ : ∃ w1, w1 = w.setCell ⟨p.s, 32, none⟩ (.int .i32 1) := ⟨_, rfl⟩
  have hc1 : Chg (fun k => k = p.s) w w1 := by rw [hw1]; exact Chg.setCell (S := fun k => k = p.s) (Chg.refl _ _) (p := ⟨p.s, 32, none⟩) (fun _ => rfl) _
  have hs1 := h.blk.set_ 32 (.int .i32 1)
  rw [← hw1] at hs1
  have hat1 : StAt w0 w1 p Y F { S with lock := 1 } := h.own hc1 (by simpa [stCells] using hs1) rfl rfl rfl rfl rfl rfl rfl
  have hv1 : w1.cell? ⟨v, 0, none⟩ = some (.pointer (some ⟨p.s, 0, none⟩)) := (hc1.cell (p := ⟨v, 0, none⟩) (World.block_lt_of_cell? w _ hpl) hs).trans hpl
  have y32 := h.blk.cell 32
  have f32 := h.blk.frozen 32
  have y31 := hat1.blk.cell 31
  simp [stCells, hk, h0] at y32 y31
  have hlk := mx_lock ⟨p.s, 32, none⟩ w y32 f32
  have hl := run_call_load (P := Tryz.prog) Tryz.func209 (by kernel_rfl) (by kernel_rfl) (by kernel_rfl) .u32 (by kernel_rfl) (w := w1) (a := ⟨p.s, 31, none⟩) (x := 0) y31
  have hcb := cl_body w0 w1 p Y F _ hat1 v hv1 hs hb
  have hnot : ∀ (x : Bool) (w : World), (Op.unary .not (.bool x)).run Tryz.prog w = .ok (.bool (!x)) w := fun _ _ => rfl
  rw [← hw1] at hlk
  have HLK := Lib.hid hlk
  have HCB := Lib.hid hcb
  have HD0 := Lib.hid h0
  clear hlk hcb h0
  clear hs1 hat1 hc1 h hw1 hpl hv1 y32 f32 hk
  go_enter_defers Tryz.func129, Tryz.ntmps129
  go_wp2_with fail
  refine HLK.out.mono ?_
  rintro e w' ⟨rfl, rfl⟩
  go_wp2_with (first | (go_at_call 54; refine HCB.out.mono ?_; rintro e w2 ⟨rfl, hS2⟩) | (go_at_call 128; go_in))
  obtain ⟨c31, c32, f31, f32⟩ := done_cells hS2 HD0.out
  refine leaves_cons (f := 212) (args := #[.pointer (some ⟨p.s, 31, none⟩), .bool true]) (by simp) (by simp [go_sem]) ?_
  refine (ab_store_d ⟨p.s, 31, none⟩ (.int .u32 0) .returning w2 c31 f31).mono ?_
  rintro e u' w'' ⟨rfl, rfl, rfl⟩
  refine leaves_cons (f := 211) (args := #[.pointer (some ⟨p.s, 32, none⟩)]) (by simp [settle]) (by simp [go_sem]) ?_
  refine (mx_unlock_d ⟨p.s, 32, none⟩ _ _ ?_ ?_).mono ?_
  · exact (World.cell?_setCell_other _ ⟨p.s, 31, none⟩ ⟨p.s, 32, none⟩ _ (by simp)).trans c32
  · simp [f32]
  rintro e u' w'' ⟨rfl, rfl, rfl⟩
  simp [Leaves, settle, results, Tryz.results129]
  exact done_fin hS2
set_option maxRecDepth 100000 in
set_option maxHeartbeats 4000000 in
theorem on_first (w0 w : World) (p : StP) (Y : Nat → Prop) (F : CfgV) (S : StV) (h : StAt w0 w p Y F S) (h0 : S.done = 0) (hk : S.lock = 0) (v : Nat) (hpl : w.cell? ⟨v, 0, none⟩ = some (.pointer (some ⟨p.s, 0, none⟩))) (hs : v ≠ p.s) (hb : v ≠ p.b) :
    Calls Tryz.prog 53 #[.pointer (some ⟨p.s, 31, none⟩), .func (.func 54) #[] #[.pointer (some ⟨v, 0, none⟩)]] w fun e w' => e = .returned (.tuple #[]) ∧ SPostY w0 p Y F (doneS S) w' := by
  have y31 := h.blk.cell 31
  simp [stCells, h0] at y31
  have hl := run_call_load (P := Tryz.prog) Tryz.func209 (by kernel_rfl) (by kernel_rfl) (by kernel_rfl) .u32 (by kernel_rfl) (w := w) (a := ⟨p.s, 31, none⟩) (x := 0) y31
  have hsl := on_slow w0 w p Y F S h h0 hk v hpl hs hb
  have hnot : ∀ (x : Bool) (w : World), (Op.unary .not (.bool x)).run Tryz.prog w = .ok (.bool (!x)) w := fun _ _ => rfl
  have HSL := Lib.hid hsl
  clear hsl
  clear h h0 hk hpl
  go_enter Tryz.func53, Tryz.ntmps53
  go_wp2_with (first | (go_at_call 129; refine HSL.out.mono ?_; rintro e w2 ⟨rfl, hS2⟩) | (go_at_call 128; go_in))
  go_end0
  exact ⟨rfl, hS2⟩
set_option maxRecDepth 100000 in
set_option maxHeartbeats 4000000 in
theorem on_done (a : Addr) (fv : Value) (w : World) (h0 : w.cell? a = some (.int .u32 1)) : Calls Tryz.prog 53 #[.pointer (some a), fv] w fun e w' => e = .returned (.tuple #[]) ∧ w = w' := by
  have hl := run_call_load (P := Tryz.prog) Tryz.func209 (by kernel_rfl) (by kernel_rfl) (by kernel_rfl) .u32 (by kernel_rfl) h0
  have hnot : ∀ (x : Bool) (w : World), (Op.unary .not (.bool x)).run Tryz.prog w = .ok (.bool (!x)) w := fun _ _ => rfl
  go_enter Tryz.func53, Tryz.ntmps53
  go_wp2_with (go_at_call 128; go_in)
  go_end0
  exact ⟨rfl, rfl⟩
set_option maxRecDepth 100000 in
set_option maxHeartbeats 4000000 in
theorem close_first (w0 w : World) (p : StP) (Y : Nat → Prop) (F : CfgV) (S : StV) (h : StAt w0 w p Y F S) (h0 : S.done = 0) (hk : S.lock = 0) :
    Calls Tryz.prog 12 #[.pointer (some ⟨p.s, 0, none⟩)] w fun e w' => e = .returned (.tuple #[]) ∧ SPostY w0 p Y F (doneS S) w' := by
  have hmf : ∀ (fn : Fn) (first cap : Array Value) (w : World), (Instr.makeFunc fn first cap).run Tryz.prog w = .ok (.func fn first cap) w := fun _ _ _ _ => rfl
  obtain ⟨g, hg⟩ : ∃ g, w.heap.size = g := ⟨_, rfl⟩
  obtain ⟨w1, hw1⟩ : ∃ w1, w1 = w.alloc (.cells #[.pointer (some ⟨p.s, 0, none⟩)] 32) := ⟨_, rfl⟩
  have hc1 : Chg (fun _ => False) w w1 := by rw [hw1]; exact cgS
  have b1 : Blk w1 g 32 #[.pointer (some ⟨p.s, 0, none⟩)] := by rw [hw1, ← hg]; exact Blk.new _ _ _
  have hat1 := h.same hc1
  have x0 := b1.cell 0
  simp at x0
  have hdo := on_first w0 w1 p Y F S hat1 h0 hk g x0 (b1.ne_ hat1.blk (by decide)) (b1.ne_ hat1.cache.bud.blk (by decide))
  have HDO := Lib.hid hdo
  have HW1 := Lib.hid hw1
  have HG := Lib.hid hg
  clear hdo hw1 hg
  clear h h0 hk hc1 b1 hat1
  go_enter Tryz.func12, Tryz.ntmps12
  go_upto_region 1 with fail
  rw [← HW1.out, HG.out]
  go_wp2_with fail
  refine HDO.out.mono ?_
  rintro e w2 ⟨rfl, hS2⟩
  have HS2 := Lib.hid hS2
  clear hS2
  go_wp2_with fail
  first | go_end0 | refine bodyPost_ret (results_none rfl _ _ _) rfl ?_
  exact ⟨rfl, HS2.out⟩
set_option maxRecDepth 100000 in
set_option maxHeartbeats 4000000 in
theorem close_again (w : World) (s : Nat) (h31 : w.cell? ⟨s, 31, none⟩ = some (.int .u32 1)) : Calls Tryz.prog 12 #[.pointer (some ⟨s, 0, none⟩)] w fun e w' => e = .returned (.tuple #[]) ∧ Chg (fun _ => False) w w' := by
  have hmf : ∀ (fn : Fn) (first cap : Array Value) (w : World), (Instr.makeFunc fn first cap).run Tryz.prog w = .ok (.func fn first cap) w := fun _ _ _ _ => rfl
  obtain ⟨g, hg⟩ : ∃ g, w.heap.size = g := ⟨_, rfl⟩
  obtain ⟨w1, hw1⟩ : ∃ w1, w1 = w.alloc (.cells #[.pointer (some ⟨s, 0, none⟩)] 32) := ⟨_, rfl⟩
  have hc1 : Chg (fun _ => False) w w1 := by rw [hw1]; exact cgS
  have b1 : Blk w1 g 32 #[.pointer (some ⟨s, 0, none⟩)] := by rw [hw1, ← hg]; exact Blk.new _ _ _
  have x0 := b1.cell 0
  simp at x0
  have hdo := fun fv => on_done ⟨s, 31, none⟩ fv w1 (ky_chg hc1 h31)
  have HDO := Lib.hid hdo
  have HW1 := Lib.hid hw1
  have HG := Lib.hid hg
  have HC1 := Lib.hid hc1
  clear hdo hw1 hg hc1
  clear h31 b1
  go_enter Tryz.func12, Tryz.ntmps12
  go_upto_region 1 with fail
  rw [← HW1.out, HG.out]
  go_wp2_with fail
  refine (HDO.out _).mono ?_
  rintro e w2 ⟨rfl, rfl⟩
  go_wp2_with fail
  first | go_end0 | refine bodyPost_ret (results_none rfl _ _ _) rfl ?_
  exact ⟨rfl, HC1.out⟩
end Go.Proofs.YtljabmkmngbhkaaGreatDoor
namespace Go.Proofs.YtljabmkmngbhkaaGreatDoor
open Go.RowKit
set_option linter.unusedVariables false
set_option linter.unusedSimpArgs false

def lexOk (ops : Array Oper) : Nat → List Oper → Bool
  | _, [] => true
  | k, o :: r => (o.after.all fun e => !Region.binds .any e || decide (e.on < k)) && (r.all fun y => y.after.any (fun e => Region.binds .any e && e.on == k) || o.apart ops y) && lexOk ops (k + 1) r
structure LexInv (l : List Oper) (k : Nat) (listed : Array Bool) : Prop where
  s : listed.size = l.length
  t : ∀ j, j < k → listed[j]? = some true
  f : ∀ j, k ≤ j → j < l.length → listed[j]? = some false
theorem lex_go (l : List Oper) : ∀ (r pre : List Oper) (listed : Array Bool), l = pre ++ r → LexInv l pre.length listed → lexOk l.toArray pre.length r = true → Region.lexFrom .any l.toArray r.length pre.length listed = true
  | [], pre, listed, hl, hi, h => by
    show (Region.ready .any l.toArray listed).isEmpty = true
    rw [List.isEmpty_iff]
    refine List.eq_nil_iff_forall_not_mem.2 fun j hj => ?_
    obtain ⟨h0, o, ho, _⟩ := mem_ready.1 hj
    have hj2 : j < l.length := by
      have := (Array.getElem?_eq_some_iff.1 ho).1
      simpa using this
    have hj3 : j < pre.length := by rw [hl] at hj2; simpa using hj2
    have := hi.t j hj3
    simp [this] at h0
  | o :: r, pre, listed, hl, hi, h => by
    have hlen : pre.length < l.length := by rw [hl]; simp
    have hk : l.toArray[pre.length]? = some o := by rw [hl]; simp
    simp only [lexOk, Bool.and_eq_true] at h
    obtain ⟨⟨h1, h2⟩, h3⟩ := h
    rw [List.length_cons, Region.lexFrom, Bool.and_eq_true, Bool.and_eq_true]
    have hf := hi.f pre.length (Nat.le_refl _) hlen
    refine ⟨⟨?_, ?_⟩, ?_⟩
    · rw [List.contains_iff_mem]
      refine mem_ready.2 ⟨by simp [hf], o, hk, fun e he hb => ?_⟩
      have := Array.all_eq_true_iff_forall_mem.1 h1 e he
      rw [hb] at this
      have hlt : e.on < pre.length := by simpa using this
      simp [hi.t _ hlt]
    · unfold Region.free
      rw [hk]
      simp only
      rw [List.all_eq_true]
      intro j hj
      have hjn : j < l.length := by simpa using hj
      rcases Nat.lt_trichotomy j pre.length with hlt | rfl | hgt
      · simp [hi.t j hlt]
      · simp
      · obtain ⟨y, hy⟩ : ∃ y, l.toArray[j]? = some y := ⟨l[j], by simp [hjn]⟩
        have hmem : y ∈ r := by
          have e : (pre ++ o :: r)[j]? = some y := by rw [← hl]; simpa using hy
          rw [List.getElem?_append_right (by omega)] at e
          obtain ⟨m, hm⟩ : ∃ m, j - pre.length = m + 1 := ⟨j - pre.length - 1, by omega⟩
          rw [hm, List.getElem?_cons_succ] at e
          exact List.mem_of_getElem? e
        have := List.all_eq_true.1 h2 y hmem
        rw [hy]
        simp only [Bool.or_eq_true] at this ⊢
        exact .inr this
    · have e : pre.length + 1 = (pre ++ [o]).length := by simp
      rw [e]
      refine lex_go l r (pre ++ [o]) _ (by rw [hl]; simp) ⟨by simp [hi.s], fun j hj => ?_, fun j hj hjn => ?_⟩ (by rw [← e]; exact h3)
      · rw [Array.getElem?_setIfInBounds]
        split
        · rename_i he
          have : j < listed.size := by rw [hi.s]; omega
          simp [← he, hi.s, hlen]
        · exact hi.t j (by simp at hj; omega)
      · rw [Array.getElem?_setIfInBounds_ne (by simp at hj; omega)]
        exact hi.f j (by simp at hj; omega) hjn
theorem lex_of {l : List Oper} (hs : Region.noSelect l.toArray = true) (h : lexOk l.toArray 0 l = true) : Region.lexB .any l.toArray = true := by
  unfold Region.lexB
  rw [hs, Bool.true_and]
  have := lex_go l l [] (Array.replicate l.toArray.size false) rfl ⟨by simp, fun j hj => by simp at hj, fun j _ hj => by simp [hj]⟩ h
  simpa using this
end Go.Proofs.YtljabmkmngbhkaaGreatDoor
