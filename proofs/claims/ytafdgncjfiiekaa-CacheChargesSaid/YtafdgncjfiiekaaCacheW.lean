/-
  The cache and the document's list side by side: one call of both (act), each way of its switch.
-/
import Derived.Test.YtafdgncjfiiekaaCacheV
namespace Go.Proofs.Ytafdgncjfiiekaa
open Go.RowKit
set_option linter.unusedVariables false
set_option linter.unusedSimpArgs false

theorem ids_put {w : World} (L : List Node) (B : Bud) (f b : Int) (s : ByteArray) (i : Nat) (hi : w.heap.size ≤ i) : Ids w L (putM L B f b s i).2.1 := fun x hx => by
  rcases put_ids' L B f b s i x hx with e | e
  · exact .inl ⟨x, e, rfl⟩
  · exact .inr (by rw [e]; exact hi)
theorem cache_change (c g m : Nat) (L : List Node) (B : Bud) (n : Int) (hn : n ≤ 9223372036854775807) (w : World) (h : CacheAt w c g m L B) :
    Calls Try.prog 15 #[.pointer (some ⟨g, 0, none⟩), .int .i64 0, .int .i64 n] w fun e w' => e = .returned (.int .i64 (B.change 0 n).1) ∧ CacheAt w' c g m L (B.change 0 n).2 ∧ Chg (FootC c g m L) w w' :=
  (bud_change g B 0 n w h.bud hn).mono fun e w' ⟨he, hb, hc⟩ => ⟨he, h.change hb hc (change0_b B n), hc.mono fun k _ e => .inr (.inl e)⟩
theorem RStep.change {w w1 : World} {r rb : Nat} {v : Value} {L : List Node} {B B' : Bud} (h : RCacheAt w r rb 0 v L B) (hb : RBudAt w1 rb B') (hc : Chg (fun k => k = rb) w w1) : RStep r rb v w w1 L B' :=
  ⟨v, ⟨h.blk.chg hc h.apart.1, own_chg h.own hc (fun k hk => (h.apart.2 k hk).2), hb⟩, hc.mono fun k _ e => .inr (.inl e), fun _ _ h => h⟩

set_option maxRecDepth 100000 in
set_option maxHeartbeats 4000000 in
theorem lc_act_get0 (c g m r rb : Nat) (v : Value) (L : List Node) (B : Bud) (d f k n : Int) (s : ByteArray) (p : Nat) (hf : In64 f) (hk : In64 k) (hn : In64 n) (hs : s.size ≤ 140737488355328) (hp : Pins p L) (hp1 : p ≤ 999999) (hd : d.tmod 7 = 1) (w : World) (h : Both w c g m r rb v L B) :
    Calls Try.prog 36 #[.pointer (some ⟨c, 0, none⟩), .pointer (some ⟨g, 0, none⟩), .pointer (some ⟨r, 0, none⟩), .agg #[.int .i64 d, .int .i64 f, .int .i64 k, .string s, .int .i64 n]] w (ActPost w c g m r rb v L B p f k s) := by
  have hlts := h.lts
  have HF := Lib.hid hf
  have HK := Lib.hid hk
  have hn1 : n ≤ 9223372036854775807 := hn.2
  have HP := Lib.hid hp
  have hsm := LSmall.of h.ca
  have HSM := Lib.hid hsm
  have HA := Lib.hid h.ca.ring.apart
  have HTOT := Lib.hid h.ca.tot
  have r1 := h.ra.blk.cell 1
  simp at r1
  have hrl := h.ra.blk.lt
  have H := Lib.hid h
  have HLT := Lib.hid hlts
  have h2 : Both ((w.alloc (.cells #[.int .i64 d, .int .i64 f, .int .i64 k, .string s, .int .i64 n] 46)).alloc (.cells #[.int .i64 f, .int .i64 k] 48)) c g m r rb v L B := h.same (by ((repeat (first | exact Chg.refl _ _ | assumption | refine Chg.drewN ?_ _ | refine Chg.drew ?_ | refine Chg.alloc ?_ _ | refine Chg.setCell ?_ (by simp) _))))
  have H2 := Lib.hid h2
  have hc02 : Chg (fun _ => False) w ((w.alloc (.cells #[.int .i64 d, .int .i64 f, .int .i64 k, .string s, .int .i64 n] 46)).alloc (.cells #[.int .i64 f, .int .i64 k] 48)) := by ((repeat (first | exact Chg.refl _ _ | assumption | refine Chg.drewN ?_ _ | refine Chg.drew ?_ | refine Chg.alloc ?_ _ | refine Chg.setCell ?_ (by simp) _)))
  have hact : Blk ((w.alloc (.cells #[.int .i64 d, .int .i64 f, .int .i64 k, .string s, .int .i64 n] 46)).alloc (.cells #[.int .i64 f, .int .i64 k] 48)) w.heap.size 46 #[.int .i64 d, .int .i64 f, .int .i64 k, .string s, .int .i64 n] := (Blk.new w _ _).chg (S := fun _ => False) (by ((repeat (first | exact Chg.refl _ _ | assumption | refine Chg.drewN ?_ _ | refine Chg.drew ?_ | refine Chg.alloc ?_ _ | refine Chg.setCell ?_ (by simp) _)))) (by simp)
  have hkey : Blk ((w.alloc (.cells #[.int .i64 d, .int .i64 f, .int .i64 k, .string s, .int .i64 n] 46)).alloc (.cells #[.int .i64 f, .int .i64 k] 48)) (w.heap.size + 1) 48 #[.int .i64 f, .int .i64 k] := by
    have := Blk.new (w.alloc (.cells #[.int .i64 d, .int .i64 f, .int .i64 k, .string s, .int .i64 n] 46)) 48 #[.int .i64 f, .int .i64 k]
    simpa using this
  have HACT := Lib.hid hact
  have HKEY := Lib.hid hkey
  have HC02 := Lib.hid hc02
  clear h hlts hf hk hn hp hsm h2 hact hkey hc02
  go_enter Try.func36, Try.ntmps36
  go_wp2_with fail
  refine (cache_get_any c g m L B f k HF.out HK.out ((w.alloc (.cells #[.int .i64 d, .int .i64 f, .int .i64 k, .string s, .int .i64 n] 46)).alloc (.cells #[.int .i64 f, .int .i64 k] 48)) H2.out.ca).mono ?_
  rintro e w3 ⟨rfl, h3, hc3⟩
  have hft : ∀ y, FootC c g m L y → y < w.heap.size := fun y hy => HLT.out y (.inl hy)
  have hact3 := HACT.out.chg hc3 (fun hf => by have := hft _ hf; omega)
  have hkey3 := HKEY.out.chg hc3 (fun hf => by have := hft _ hf; omega)
  have y0 := hact3.cell 0
  have y1 := hact3.cell 1
  have y2 := hact3.cell 2
  have y3 := hact3.cell 3
  have y4 := hact3.cell 4
  simp at y0 y1 y2 y3 y4
  have hr3 := H2.out.ref hc3
  have H3 := Lib.hid h3
  have HR3 := Lib.hid hr3
  have HC3 := Lib.hid hc3
  clear h3 hr3 hc3 hact3 hkey3
  go_wp2_with fail
  refine (ref_get_any r rb v L B f k w3 HR3.out HSM.out.1).mono ?_
  rintro e w4 ⟨rfl, hst⟩
  have hfin := (H2.out.step H3.out HC3.out (ids_get _ L f k) hst).first HC02.out
  have HFIN := Lib.hid hfin
  clear hst hfin y0 y1 y2 y3 y4
  go_wp2_with fail
  go_ret
  exact ⟨by simp, _, _, HFIN.out, HP.out.get f k, rfl, comes_get L f k s⟩

set_option maxRecDepth 100000 in
set_option maxHeartbeats 4000000 in
theorem lc_act_get1 (c g m r rb : Nat) (v : Value) (L : List Node) (B : Bud) (d f k n : Int) (s : ByteArray) (p : Nat) (hf : In64 f) (hk : In64 k) (hn : In64 n) (hs : s.size ≤ 140737488355328) (hp : Pins p L) (hp1 : p ≤ 999999) (hd : d.tmod 7 = -1) (w : World) (h : Both w c g m r rb v L B) :
    Calls Try.prog 36 #[.pointer (some ⟨c, 0, none⟩), .pointer (some ⟨g, 0, none⟩), .pointer (some ⟨r, 0, none⟩), .agg #[.int .i64 d, .int .i64 f, .int .i64 k, .string s, .int .i64 n]] w (ActPost w c g m r rb v L B p f k s) := by
  have hlts := h.lts
  have HF := Lib.hid hf
  have HK := Lib.hid hk
  have hn1 : n ≤ 9223372036854775807 := hn.2
  have HP := Lib.hid hp
  have hsm := LSmall.of h.ca
  have HSM := Lib.hid hsm
  have HA := Lib.hid h.ca.ring.apart
  have HTOT := Lib.hid h.ca.tot
  have r1 := h.ra.blk.cell 1
  simp at r1
  have hrl := h.ra.blk.lt
  have H := Lib.hid h
  have HLT := Lib.hid hlts
  have h2 : Both ((w.alloc (.cells #[.int .i64 d, .int .i64 f, .int .i64 k, .string s, .int .i64 n] 46)).alloc (.cells #[.int .i64 f, .int .i64 k] 48)) c g m r rb v L B := h.same (by ((repeat (first | exact Chg.refl _ _ | assumption | refine Chg.drewN ?_ _ | refine Chg.drew ?_ | refine Chg.alloc ?_ _ | refine Chg.setCell ?_ (by simp) _))))
  have H2 := Lib.hid h2
  have hc02 : Chg (fun _ => False) w ((w.alloc (.cells #[.int .i64 d, .int .i64 f, .int .i64 k, .string s, .int .i64 n] 46)).alloc (.cells #[.int .i64 f, .int .i64 k] 48)) := by ((repeat (first | exact Chg.refl _ _ | assumption | refine Chg.drewN ?_ _ | refine Chg.drew ?_ | refine Chg.alloc ?_ _ | refine Chg.setCell ?_ (by simp) _)))
  have hact : Blk ((w.alloc (.cells #[.int .i64 d, .int .i64 f, .int .i64 k, .string s, .int .i64 n] 46)).alloc (.cells #[.int .i64 f, .int .i64 k] 48)) w.heap.size 46 #[.int .i64 d, .int .i64 f, .int .i64 k, .string s, .int .i64 n] := (Blk.new w _ _).chg (S := fun _ => False) (by ((repeat (first | exact Chg.refl _ _ | assumption | refine Chg.drewN ?_ _ | refine Chg.drew ?_ | refine Chg.alloc ?_ _ | refine Chg.setCell ?_ (by simp) _)))) (by simp)
  have hkey : Blk ((w.alloc (.cells #[.int .i64 d, .int .i64 f, .int .i64 k, .string s, .int .i64 n] 46)).alloc (.cells #[.int .i64 f, .int .i64 k] 48)) (w.heap.size + 1) 48 #[.int .i64 f, .int .i64 k] := by
    have := Blk.new (w.alloc (.cells #[.int .i64 d, .int .i64 f, .int .i64 k, .string s, .int .i64 n] 46)) 48 #[.int .i64 f, .int .i64 k]
    simpa using this
  have HACT := Lib.hid hact
  have HKEY := Lib.hid hkey
  have HC02 := Lib.hid hc02
  clear h hlts hf hk hn hp hsm h2 hact hkey hc02
  go_enter Try.func36, Try.ntmps36
  go_wp2_with fail
  refine (cache_get_any c g m L B f k HF.out HK.out ((w.alloc (.cells #[.int .i64 d, .int .i64 f, .int .i64 k, .string s, .int .i64 n] 46)).alloc (.cells #[.int .i64 f, .int .i64 k] 48)) H2.out.ca).mono ?_
  rintro e w3 ⟨rfl, h3, hc3⟩
  have hft : ∀ y, FootC c g m L y → y < w.heap.size := fun y hy => HLT.out y (.inl hy)
  have hact3 := HACT.out.chg hc3 (fun hf => by have := hft _ hf; omega)
  have hkey3 := HKEY.out.chg hc3 (fun hf => by have := hft _ hf; omega)
  have y0 := hact3.cell 0
  have y1 := hact3.cell 1
  have y2 := hact3.cell 2
  have y3 := hact3.cell 3
  have y4 := hact3.cell 4
  simp at y0 y1 y2 y3 y4
  have hr3 := H2.out.ref hc3
  have H3 := Lib.hid h3
  have HR3 := Lib.hid hr3
  have HC3 := Lib.hid hc3
  clear h3 hr3 hc3 hact3 hkey3
  go_wp2_with fail
  refine (ref_get_any r rb v L B f k w3 HR3.out HSM.out.1).mono ?_
  rintro e w4 ⟨rfl, hst⟩
  have hfin := (H2.out.step H3.out HC3.out (ids_get _ L f k) hst).first HC02.out
  have HFIN := Lib.hid hfin
  clear hst hfin y0 y1 y2 y3 y4
  go_wp2_with fail
  go_ret
  exact ⟨by simp, _, _, HFIN.out, HP.out.get f k, rfl, comes_get L f k s⟩

set_option maxRecDepth 100000 in
set_option maxHeartbeats 4000000 in
theorem lc_act_drop0 (c g m r rb : Nat) (v : Value) (L : List Node) (B : Bud) (d f k n : Int) (s : ByteArray) (p : Nat) (hf : In64 f) (hk : In64 k) (hn : In64 n) (hs : s.size ≤ 140737488355328) (hp : Pins p L) (hp1 : p ≤ 999999) (hd : d.tmod 7 = 4) (w : World) (h : Both w c g m r rb v L B) :
    Calls Try.prog 36 #[.pointer (some ⟨c, 0, none⟩), .pointer (some ⟨g, 0, none⟩), .pointer (some ⟨r, 0, none⟩), .agg #[.int .i64 d, .int .i64 f, .int .i64 k, .string s, .int .i64 n]] w (ActPost w c g m r rb v L B p f k s) := by
  have hlts := h.lts
  have HF := Lib.hid hf
  have HK := Lib.hid hk
  have hn1 : n ≤ 9223372036854775807 := hn.2
  have HP := Lib.hid hp
  have hsm := LSmall.of h.ca
  have HSM := Lib.hid hsm
  have HA := Lib.hid h.ca.ring.apart
  have HTOT := Lib.hid h.ca.tot
  have r1 := h.ra.blk.cell 1
  simp at r1
  have hrl := h.ra.blk.lt
  have H := Lib.hid h
  have HLT := Lib.hid hlts
  have h2 : Both ((w.alloc (.cells #[.int .i64 d, .int .i64 f, .int .i64 k, .string s, .int .i64 n] 46)).alloc (.cells #[.int .i64 f, .int .i64 k] 48)) c g m r rb v L B := h.same (by ((repeat (first | exact Chg.refl _ _ | assumption | refine Chg.drewN ?_ _ | refine Chg.drew ?_ | refine Chg.alloc ?_ _ | refine Chg.setCell ?_ (by simp) _))))
  have H2 := Lib.hid h2
  have hc02 : Chg (fun _ => False) w ((w.alloc (.cells #[.int .i64 d, .int .i64 f, .int .i64 k, .string s, .int .i64 n] 46)).alloc (.cells #[.int .i64 f, .int .i64 k] 48)) := by ((repeat (first | exact Chg.refl _ _ | assumption | refine Chg.drewN ?_ _ | refine Chg.drew ?_ | refine Chg.alloc ?_ _ | refine Chg.setCell ?_ (by simp) _)))
  have hact : Blk ((w.alloc (.cells #[.int .i64 d, .int .i64 f, .int .i64 k, .string s, .int .i64 n] 46)).alloc (.cells #[.int .i64 f, .int .i64 k] 48)) w.heap.size 46 #[.int .i64 d, .int .i64 f, .int .i64 k, .string s, .int .i64 n] := (Blk.new w _ _).chg (S := fun _ => False) (by ((repeat (first | exact Chg.refl _ _ | assumption | refine Chg.drewN ?_ _ | refine Chg.drew ?_ | refine Chg.alloc ?_ _ | refine Chg.setCell ?_ (by simp) _)))) (by simp)
  have hkey : Blk ((w.alloc (.cells #[.int .i64 d, .int .i64 f, .int .i64 k, .string s, .int .i64 n] 46)).alloc (.cells #[.int .i64 f, .int .i64 k] 48)) (w.heap.size + 1) 48 #[.int .i64 f, .int .i64 k] := by
    have := Blk.new (w.alloc (.cells #[.int .i64 d, .int .i64 f, .int .i64 k, .string s, .int .i64 n] 46)) 48 #[.int .i64 f, .int .i64 k]
    simpa using this
  have HACT := Lib.hid hact
  have HKEY := Lib.hid hkey
  have HC02 := Lib.hid hc02
  clear h hlts hf hk hn hp hsm h2 hact hkey hc02
  go_enter Try.func36, Try.ntmps36
  go_wp2_with fail
  refine (cache_drop_any c g m L B f ((w.alloc (.cells #[.int .i64 d, .int .i64 f, .int .i64 k, .string s, .int .i64 n] 46)).alloc (.cells #[.int .i64 f, .int .i64 k] 48)) H2.out.ca).mono ?_
  rintro e w3 ⟨rfl, h3, hc3⟩
  have hft : ∀ y, FootC c g m L y → y < w.heap.size := fun y hy => HLT.out y (.inl hy)
  have hact3 := HACT.out.chg hc3 (fun hf => by have := hft _ hf; omega)
  have hkey3 := HKEY.out.chg hc3 (fun hf => by have := hft _ hf; omega)
  have y0 := hact3.cell 0
  have y1 := hact3.cell 1
  have y2 := hact3.cell 2
  have y3 := hact3.cell 3
  have y4 := hact3.cell 4
  simp at y0 y1 y2 y3 y4
  have hr3 := H2.out.ref hc3
  have H3 := Lib.hid h3
  have HR3 := Lib.hid hr3
  have HC3 := Lib.hid hc3
  clear h3 hr3 hc3 hact3 hkey3
  go_wp2_with fail
  refine (ref_drop r rb v L B f HSM.out.1 w3 HR3.out).mono ?_
  rintro e w4 ⟨rfl, hst⟩
  have hfin := (H2.out.step H3.out HC3.out (ids_sub fun x hx => (List.filter_sublist : (notFile f L).Sublist L).subset hx) hst).first HC02.out
  have HFIN := Lib.hid hfin
  clear hst hfin y0 y1 y2 y3 y4
  go_wp2_with fail
  go_ret
  exact ⟨rfl, _, _, HFIN.out, HP.out.sub fun x hx => (List.filter_sublist : (notFile f L).Sublist L).subset hx, bdrop_l _ _, comes_sub f k s fun x hx => (List.filter_sublist : (notFile f L).Sublist L).subset hx⟩

set_option maxRecDepth 100000 in
set_option maxHeartbeats 4000000 in
theorem lc_act_drop1 (c g m r rb : Nat) (v : Value) (L : List Node) (B : Bud) (d f k n : Int) (s : ByteArray) (p : Nat) (hf : In64 f) (hk : In64 k) (hn : In64 n) (hs : s.size ≤ 140737488355328) (hp : Pins p L) (hp1 : p ≤ 999999) (hd : d.tmod 7 = -4) (w : World) (h : Both w c g m r rb v L B) :
    Calls Try.prog 36 #[.pointer (some ⟨c, 0, none⟩), .pointer (some ⟨g, 0, none⟩), .pointer (some ⟨r, 0, none⟩), .agg #[.int .i64 d, .int .i64 f, .int .i64 k, .string s, .int .i64 n]] w (ActPost w c g m r rb v L B p f k s) := by
  have hlts := h.lts
  have HF := Lib.hid hf
  have HK := Lib.hid hk
  have hn1 : n ≤ 9223372036854775807 := hn.2
  have HP := Lib.hid hp
  have hsm := LSmall.of h.ca
  have HSM := Lib.hid hsm
  have HA := Lib.hid h.ca.ring.apart
  have HTOT := Lib.hid h.ca.tot
  have r1 := h.ra.blk.cell 1
  simp at r1
  have hrl := h.ra.blk.lt
  have H := Lib.hid h
  have HLT := Lib.hid hlts
  have h2 : Both ((w.alloc (.cells #[.int .i64 d, .int .i64 f, .int .i64 k, .string s, .int .i64 n] 46)).alloc (.cells #[.int .i64 f, .int .i64 k] 48)) c g m r rb v L B := h.same (by ((repeat (first | exact Chg.refl _ _ | assumption | refine Chg.drewN ?_ _ | refine Chg.drew ?_ | refine Chg.alloc ?_ _ | refine Chg.setCell ?_ (by simp) _))))
  have H2 := Lib.hid h2
  have hc02 : Chg (fun _ => False) w ((w.alloc (.cells #[.int .i64 d, .int .i64 f, .int .i64 k, .string s, .int .i64 n] 46)).alloc (.cells #[.int .i64 f, .int .i64 k] 48)) := by ((repeat (first | exact Chg.refl _ _ | assumption | refine Chg.drewN ?_ _ | refine Chg.drew ?_ | refine Chg.alloc ?_ _ | refine Chg.setCell ?_ (by simp) _)))
  have hact : Blk ((w.alloc (.cells #[.int .i64 d, .int .i64 f, .int .i64 k, .string s, .int .i64 n] 46)).alloc (.cells #[.int .i64 f, .int .i64 k] 48)) w.heap.size 46 #[.int .i64 d, .int .i64 f, .int .i64 k, .string s, .int .i64 n] := (Blk.new w _ _).chg (S := fun _ => False) (by ((repeat (first | exact Chg.refl _ _ | assumption | refine Chg.drewN ?_ _ | refine Chg.drew ?_ | refine Chg.alloc ?_ _ | refine Chg.setCell ?_ (by simp) _)))) (by simp)
  have hkey : Blk ((w.alloc (.cells #[.int .i64 d, .int .i64 f, .int .i64 k, .string s, .int .i64 n] 46)).alloc (.cells #[.int .i64 f, .int .i64 k] 48)) (w.heap.size + 1) 48 #[.int .i64 f, .int .i64 k] := by
    have := Blk.new (w.alloc (.cells #[.int .i64 d, .int .i64 f, .int .i64 k, .string s, .int .i64 n] 46)) 48 #[.int .i64 f, .int .i64 k]
    simpa using this
  have HACT := Lib.hid hact
  have HKEY := Lib.hid hkey
  have HC02 := Lib.hid hc02
  clear h hlts hf hk hn hp hsm h2 hact hkey hc02
  go_enter Try.func36, Try.ntmps36
  go_wp2_with fail
  refine (cache_drop_any c g m L B f ((w.alloc (.cells #[.int .i64 d, .int .i64 f, .int .i64 k, .string s, .int .i64 n] 46)).alloc (.cells #[.int .i64 f, .int .i64 k] 48)) H2.out.ca).mono ?_
  rintro e w3 ⟨rfl, h3, hc3⟩
  have hft : ∀ y, FootC c g m L y → y < w.heap.size := fun y hy => HLT.out y (.inl hy)
  have hact3 := HACT.out.chg hc3 (fun hf => by have := hft _ hf; omega)
  have hkey3 := HKEY.out.chg hc3 (fun hf => by have := hft _ hf; omega)
  have y0 := hact3.cell 0
  have y1 := hact3.cell 1
  have y2 := hact3.cell 2
  have y3 := hact3.cell 3
  have y4 := hact3.cell 4
  simp at y0 y1 y2 y3 y4
  have hr3 := H2.out.ref hc3
  have H3 := Lib.hid h3
  have HR3 := Lib.hid hr3
  have HC3 := Lib.hid hc3
  clear h3 hr3 hc3 hact3 hkey3
  go_wp2_with fail
  refine (ref_drop r rb v L B f HSM.out.1 w3 HR3.out).mono ?_
  rintro e w4 ⟨rfl, hst⟩
  have hfin := (H2.out.step H3.out HC3.out (ids_sub fun x hx => (List.filter_sublist : (notFile f L).Sublist L).subset hx) hst).first HC02.out
  have HFIN := Lib.hid hfin
  clear hst hfin y0 y1 y2 y3 y4
  go_wp2_with fail
  go_ret
  exact ⟨rfl, _, _, HFIN.out, HP.out.sub fun x hx => (List.filter_sublist : (notFile f L).Sublist L).subset hx, bdrop_l _ _, comes_sub f k s fun x hx => (List.filter_sublist : (notFile f L).Sublist L).subset hx⟩

set_option maxRecDepth 100000 in
set_option maxHeartbeats 4000000 in
theorem lc_act_pin0 (c g m r rb : Nat) (v : Value) (L : List Node) (B : Bud) (d f k n : Int) (s : ByteArray) (p : Nat) (hf : In64 f) (hk : In64 k) (hn : In64 n) (hs : s.size ≤ 140737488355328) (hp : Pins p L) (hp1 : p ≤ 999999) (hd : d.tmod 7 = 2) (w : World) (h : Both w c g m r rb v L B) :
    Calls Try.prog 36 #[.pointer (some ⟨c, 0, none⟩), .pointer (some ⟨g, 0, none⟩), .pointer (some ⟨r, 0, none⟩), .agg #[.int .i64 d, .int .i64 f, .int .i64 k, .string s, .int .i64 n]] w (ActPost w c g m r rb v L B p f k s) := by
  have hlts := h.lts
  have HF := Lib.hid hf
  have HK := Lib.hid hk
  have hn1 : n ≤ 9223372036854775807 := hn.2
  have HP := Lib.hid hp
  have hsm := LSmall.of h.ca
  have HSM := Lib.hid hsm
  have HA := Lib.hid h.ca.ring.apart
  have HTOT := Lib.hid h.ca.tot
  have r1 := h.ra.blk.cell 1
  simp at r1
  have hrl := h.ra.blk.lt
  have H := Lib.hid h
  have HLT := Lib.hid hlts
  have h2 : Both ((w.alloc (.cells #[.int .i64 d, .int .i64 f, .int .i64 k, .string s, .int .i64 n] 46)).alloc (.cells #[.int .i64 f, .int .i64 k] 48)) c g m r rb v L B := h.same (by ((repeat (first | exact Chg.refl _ _ | assumption | refine Chg.drewN ?_ _ | refine Chg.drew ?_ | refine Chg.alloc ?_ _ | refine Chg.setCell ?_ (by simp) _))))
  have H2 := Lib.hid h2
  have hc02 : Chg (fun _ => False) w ((w.alloc (.cells #[.int .i64 d, .int .i64 f, .int .i64 k, .string s, .int .i64 n] 46)).alloc (.cells #[.int .i64 f, .int .i64 k] 48)) := by ((repeat (first | exact Chg.refl _ _ | assumption | refine Chg.drewN ?_ _ | refine Chg.drew ?_ | refine Chg.alloc ?_ _ | refine Chg.setCell ?_ (by simp) _)))
  have hact : Blk ((w.alloc (.cells #[.int .i64 d, .int .i64 f, .int .i64 k, .string s, .int .i64 n] 46)).alloc (.cells #[.int .i64 f, .int .i64 k] 48)) w.heap.size 46 #[.int .i64 d, .int .i64 f, .int .i64 k, .string s, .int .i64 n] := (Blk.new w _ _).chg (S := fun _ => False) (by ((repeat (first | exact Chg.refl _ _ | assumption | refine Chg.drewN ?_ _ | refine Chg.drew ?_ | refine Chg.alloc ?_ _ | refine Chg.setCell ?_ (by simp) _)))) (by simp)
  have hkey : Blk ((w.alloc (.cells #[.int .i64 d, .int .i64 f, .int .i64 k, .string s, .int .i64 n] 46)).alloc (.cells #[.int .i64 f, .int .i64 k] 48)) (w.heap.size + 1) 48 #[.int .i64 f, .int .i64 k] := by
    have := Blk.new (w.alloc (.cells #[.int .i64 d, .int .i64 f, .int .i64 k, .string s, .int .i64 n] 46)) 48 #[.int .i64 f, .int .i64 k]
    simpa using this
  have HACT := Lib.hid hact
  have HKEY := Lib.hid hkey
  have HC02 := Lib.hid hc02
  clear h hlts hf hk hn hp hsm h2 hact hkey hc02
  go_enter Try.func36, Try.ntmps36
  go_wp2_with fail
  have hft : ∀ y, FootC c g m L y → y < w.heap.size := fun y hy => HLT.out y (.inl hy)
  have hflt : ∀ y, RFoot r rb v y → y < w.heap.size := fun y hy => HLT.out y (.inr hy)
  have HFT := Lib.hid hft
  have HFLT := Lib.hid hflt
  clear hft hflt
  go_region_held3 (fun w' => w'.cell? ⟨w.heap.size, 1, none⟩ = some (.int .i64 f) ∧ w'.cell? ⟨w.heap.size, 2, none⟩ = some (.int .i64 k) ∧ w'.cell? ⟨w.heap.size + 1, 0, none⟩ = some (.int .i64 f) ∧ w'.cell? ⟨w.heap.size + 1, 1, none⟩ = some (.int .i64 k))
    (first | (go_keep; done) | (go_split_ands; refine ⟨?_, ?_, ?_, ?_⟩ <;> (first | (rw [hc4.cell (by have := hc3.size; simp at this ⊢ <;> omega) (fun hf => by have := HFLT.out _ hf; dsimp only at this; omega)]; assumption) | (rw [hc3.cell (by simp <;> omega) (fun hf => by have := HFT.out _ hf; dsimp only at this; omega)]; assumption))))
    (first
      | (go_at_call 30; refine (cache_pin_any c g m L B f k HF.out HK.out _ ((H2.out.same (by ((repeat (first | exact Chg.refl _ _ | assumption | refine Chg.drewN ?_ _ | refine Chg.drew ?_ | refine Chg.alloc ?_ _ | refine Chg.setCell ?_ (by simp) _))))).ca) (fun x hx => by have := HP.out x hx; omega)).mono ?_; rintro e w3 ⟨rfl, h3, hc3⟩)
      | (go_at_call 54; refine (ref_pin_any r rb v L B f k _ (((H2.out.same (by ((repeat (first | exact Chg.refl _ _ | assumption | refine Chg.drewN ?_ _ | refine Chg.drew ?_ | refine Chg.alloc ?_ _ | refine Chg.setCell ?_ (by simp) _))))).ref hc3).same (by ((repeat (first | exact Chg.refl _ _ | assumption | refine Chg.drewN ?_ _ | refine Chg.drew ?_ | refine Chg.alloc ?_ _ | refine Chg.setCell ?_ (by simp) _))))) 1 (by decide) (by decide) (fun x hx => by have := HP.out x hx; omega)).mono ?_; rintro e w4 ⟨rfl, v4, hR4, hc4, hv4⟩))
  have hfin := fun W (hW : Chg (fun _ => False) w4 W) => ((((H2.out.same (by ((repeat (first | exact Chg.refl _ _ | assumption | refine Chg.drewN ?_ _ | refine Chg.drew ?_ | refine Chg.alloc ?_ _ | refine Chg.setCell ?_ (by simp) _))))).step h3 hc3 (ids_pin _ L f k 1) ⟨v4, hR4, hc4, hv4⟩).first (w := w) (by exact (HC02.out.drew))).last hW)
  have HFIN := Lib.hid hfin
  clear hfin h3 hc3 hR4 hc4 hv4
  go_wp2_with fail
  go_ret
  exact ⟨by simp, _, _, HFIN.out _ (by ((repeat (first | exact Chg.refl _ _ | assumption | refine Chg.drewN ?_ _ | refine Chg.drew ?_ | refine Chg.alloc ?_ _ | refine Chg.setCell ?_ (by simp) _)))), HP.out.pin f k 1 (by decide), rfl, comes_pin L f k 1 s⟩

set_option maxRecDepth 100000 in
set_option maxHeartbeats 4000000 in
theorem lc_act_pin1 (c g m r rb : Nat) (v : Value) (L : List Node) (B : Bud) (d f k n : Int) (s : ByteArray) (p : Nat) (hf : In64 f) (hk : In64 k) (hn : In64 n) (hs : s.size ≤ 140737488355328) (hp : Pins p L) (hp1 : p ≤ 999999) (hd : d.tmod 7 = -2) (w : World) (h : Both w c g m r rb v L B) :
    Calls Try.prog 36 #[.pointer (some ⟨c, 0, none⟩), .pointer (some ⟨g, 0, none⟩), .pointer (some ⟨r, 0, none⟩), .agg #[.int .i64 d, .int .i64 f, .int .i64 k, .string s, .int .i64 n]] w (ActPost w c g m r rb v L B p f k s) := by
  have hlts := h.lts
  have HF := Lib.hid hf
  have HK := Lib.hid hk
  have hn1 : n ≤ 9223372036854775807 := hn.2
  have HP := Lib.hid hp
  have hsm := LSmall.of h.ca
  have HSM := Lib.hid hsm
  have HA := Lib.hid h.ca.ring.apart
  have HTOT := Lib.hid h.ca.tot
  have r1 := h.ra.blk.cell 1
  simp at r1
  have hrl := h.ra.blk.lt
  have H := Lib.hid h
  have HLT := Lib.hid hlts
  have h2 : Both ((w.alloc (.cells #[.int .i64 d, .int .i64 f, .int .i64 k, .string s, .int .i64 n] 46)).alloc (.cells #[.int .i64 f, .int .i64 k] 48)) c g m r rb v L B := h.same (by ((repeat (first | exact Chg.refl _ _ | assumption | refine Chg.drewN ?_ _ | refine Chg.drew ?_ | refine Chg.alloc ?_ _ | refine Chg.setCell ?_ (by simp) _))))
  have H2 := Lib.hid h2
  have hc02 : Chg (fun _ => False) w ((w.alloc (.cells #[.int .i64 d, .int .i64 f, .int .i64 k, .string s, .int .i64 n] 46)).alloc (.cells #[.int .i64 f, .int .i64 k] 48)) := by ((repeat (first | exact Chg.refl _ _ | assumption | refine Chg.drewN ?_ _ | refine Chg.drew ?_ | refine Chg.alloc ?_ _ | refine Chg.setCell ?_ (by simp) _)))
  have hact : Blk ((w.alloc (.cells #[.int .i64 d, .int .i64 f, .int .i64 k, .string s, .int .i64 n] 46)).alloc (.cells #[.int .i64 f, .int .i64 k] 48)) w.heap.size 46 #[.int .i64 d, .int .i64 f, .int .i64 k, .string s, .int .i64 n] := (Blk.new w _ _).chg (S := fun _ => False) (by ((repeat (first | exact Chg.refl _ _ | assumption | refine Chg.drewN ?_ _ | refine Chg.drew ?_ | refine Chg.alloc ?_ _ | refine Chg.setCell ?_ (by simp) _)))) (by simp)
  have hkey : Blk ((w.alloc (.cells #[.int .i64 d, .int .i64 f, .int .i64 k, .string s, .int .i64 n] 46)).alloc (.cells #[.int .i64 f, .int .i64 k] 48)) (w.heap.size + 1) 48 #[.int .i64 f, .int .i64 k] := by
    have := Blk.new (w.alloc (.cells #[.int .i64 d, .int .i64 f, .int .i64 k, .string s, .int .i64 n] 46)) 48 #[.int .i64 f, .int .i64 k]
    simpa using this
  have HACT := Lib.hid hact
  have HKEY := Lib.hid hkey
  have HC02 := Lib.hid hc02
  clear h hlts hf hk hn hp hsm h2 hact hkey hc02
  go_enter Try.func36, Try.ntmps36
  go_wp2_with fail
  have hft : ∀ y, FootC c g m L y → y < w.heap.size := fun y hy => HLT.out y (.inl hy)
  have hflt : ∀ y, RFoot r rb v y → y < w.heap.size := fun y hy => HLT.out y (.inr hy)
  have HFT := Lib.hid hft
  have HFLT := Lib.hid hflt
  clear hft hflt
  go_region_held3 (fun w' => w'.cell? ⟨w.heap.size, 1, none⟩ = some (.int .i64 f) ∧ w'.cell? ⟨w.heap.size, 2, none⟩ = some (.int .i64 k) ∧ w'.cell? ⟨w.heap.size + 1, 0, none⟩ = some (.int .i64 f) ∧ w'.cell? ⟨w.heap.size + 1, 1, none⟩ = some (.int .i64 k))
    (first | (go_keep; done) | (go_split_ands; refine ⟨?_, ?_, ?_, ?_⟩ <;> (first | (rw [hc4.cell (by have := hc3.size; simp at this ⊢ <;> omega) (fun hf => by have := HFLT.out _ hf; dsimp only at this; omega)]; assumption) | (rw [hc3.cell (by simp <;> omega) (fun hf => by have := HFT.out _ hf; dsimp only at this; omega)]; assumption))))
    (first
      | (go_at_call 30; refine (cache_pin_any c g m L B f k HF.out HK.out _ ((H2.out.same (by ((repeat (first | exact Chg.refl _ _ | assumption | refine Chg.drewN ?_ _ | refine Chg.drew ?_ | refine Chg.alloc ?_ _ | refine Chg.setCell ?_ (by simp) _))))).ca) (fun x hx => by have := HP.out x hx; omega)).mono ?_; rintro e w3 ⟨rfl, h3, hc3⟩)
      | (go_at_call 54; refine (ref_pin_any r rb v L B f k _ (((H2.out.same (by ((repeat (first | exact Chg.refl _ _ | assumption | refine Chg.drewN ?_ _ | refine Chg.drew ?_ | refine Chg.alloc ?_ _ | refine Chg.setCell ?_ (by simp) _))))).ref hc3).same (by ((repeat (first | exact Chg.refl _ _ | assumption | refine Chg.drewN ?_ _ | refine Chg.drew ?_ | refine Chg.alloc ?_ _ | refine Chg.setCell ?_ (by simp) _))))) 1 (by decide) (by decide) (fun x hx => by have := HP.out x hx; omega)).mono ?_; rintro e w4 ⟨rfl, v4, hR4, hc4, hv4⟩))
  have hfin := fun W (hW : Chg (fun _ => False) w4 W) => ((((H2.out.same (by ((repeat (first | exact Chg.refl _ _ | assumption | refine Chg.drewN ?_ _ | refine Chg.drew ?_ | refine Chg.alloc ?_ _ | refine Chg.setCell ?_ (by simp) _))))).step h3 hc3 (ids_pin _ L f k 1) ⟨v4, hR4, hc4, hv4⟩).first (w := w) (by exact (HC02.out.drew))).last hW)
  have HFIN := Lib.hid hfin
  clear hfin h3 hc3 hR4 hc4 hv4
  go_wp2_with fail
  go_ret
  exact ⟨by simp, _, _, HFIN.out _ (by ((repeat (first | exact Chg.refl _ _ | assumption | refine Chg.drewN ?_ _ | refine Chg.drew ?_ | refine Chg.alloc ?_ _ | refine Chg.setCell ?_ (by simp) _)))), HP.out.pin f k 1 (by decide), rfl, comes_pin L f k 1 s⟩

set_option maxRecDepth 100000 in
set_option maxHeartbeats 4000000 in
theorem lc_act_unpin0 (c g m r rb : Nat) (v : Value) (L : List Node) (B : Bud) (d f k n : Int) (s : ByteArray) (p : Nat) (hf : In64 f) (hk : In64 k) (hn : In64 n) (hs : s.size ≤ 140737488355328) (hp : Pins p L) (hp1 : p ≤ 999999) (hd : d.tmod 7 = 3) (w : World) (h : Both w c g m r rb v L B) :
    Calls Try.prog 36 #[.pointer (some ⟨c, 0, none⟩), .pointer (some ⟨g, 0, none⟩), .pointer (some ⟨r, 0, none⟩), .agg #[.int .i64 d, .int .i64 f, .int .i64 k, .string s, .int .i64 n]] w (ActPost w c g m r rb v L B p f k s) := by
  have hlts := h.lts
  have HF := Lib.hid hf
  have HK := Lib.hid hk
  have hn1 : n ≤ 9223372036854775807 := hn.2
  have HP := Lib.hid hp
  have hsm := LSmall.of h.ca
  have HSM := Lib.hid hsm
  have HA := Lib.hid h.ca.ring.apart
  have HTOT := Lib.hid h.ca.tot
  have r1 := h.ra.blk.cell 1
  simp at r1
  have hrl := h.ra.blk.lt
  have H := Lib.hid h
  have HLT := Lib.hid hlts
  have h2 : Both ((w.alloc (.cells #[.int .i64 d, .int .i64 f, .int .i64 k, .string s, .int .i64 n] 46)).alloc (.cells #[.int .i64 f, .int .i64 k] 48)) c g m r rb v L B := h.same (by ((repeat (first | exact Chg.refl _ _ | assumption | refine Chg.drewN ?_ _ | refine Chg.drew ?_ | refine Chg.alloc ?_ _ | refine Chg.setCell ?_ (by simp) _))))
  have H2 := Lib.hid h2
  have hc02 : Chg (fun _ => False) w ((w.alloc (.cells #[.int .i64 d, .int .i64 f, .int .i64 k, .string s, .int .i64 n] 46)).alloc (.cells #[.int .i64 f, .int .i64 k] 48)) := by ((repeat (first | exact Chg.refl _ _ | assumption | refine Chg.drewN ?_ _ | refine Chg.drew ?_ | refine Chg.alloc ?_ _ | refine Chg.setCell ?_ (by simp) _)))
  have hact : Blk ((w.alloc (.cells #[.int .i64 d, .int .i64 f, .int .i64 k, .string s, .int .i64 n] 46)).alloc (.cells #[.int .i64 f, .int .i64 k] 48)) w.heap.size 46 #[.int .i64 d, .int .i64 f, .int .i64 k, .string s, .int .i64 n] := (Blk.new w _ _).chg (S := fun _ => False) (by ((repeat (first | exact Chg.refl _ _ | assumption | refine Chg.drewN ?_ _ | refine Chg.drew ?_ | refine Chg.alloc ?_ _ | refine Chg.setCell ?_ (by simp) _)))) (by simp)
  have hkey : Blk ((w.alloc (.cells #[.int .i64 d, .int .i64 f, .int .i64 k, .string s, .int .i64 n] 46)).alloc (.cells #[.int .i64 f, .int .i64 k] 48)) (w.heap.size + 1) 48 #[.int .i64 f, .int .i64 k] := by
    have := Blk.new (w.alloc (.cells #[.int .i64 d, .int .i64 f, .int .i64 k, .string s, .int .i64 n] 46)) 48 #[.int .i64 f, .int .i64 k]
    simpa using this
  have HACT := Lib.hid hact
  have HKEY := Lib.hid hkey
  have HC02 := Lib.hid hc02
  clear h hlts hf hk hn hp hsm h2 hact hkey hc02
  go_enter Try.func36, Try.ntmps36
  go_wp2_with fail
  have hft : ∀ y, FootC c g m L y → y < w.heap.size := fun y hy => HLT.out y (.inl hy)
  have hflt : ∀ y, RFoot r rb v y → y < w.heap.size := fun y hy => HLT.out y (.inr hy)
  have HFT := Lib.hid hft
  have HFLT := Lib.hid hflt
  clear hft hflt
  go_region_held3 (fun w' => w'.cell? ⟨w.heap.size, 1, none⟩ = some (.int .i64 f) ∧ w'.cell? ⟨w.heap.size, 2, none⟩ = some (.int .i64 k) ∧ w'.cell? ⟨w.heap.size + 1, 0, none⟩ = some (.int .i64 f) ∧ w'.cell? ⟨w.heap.size + 1, 1, none⟩ = some (.int .i64 k))
    (first | (go_keep; done) | (go_split_ands; refine ⟨?_, ?_, ?_, ?_⟩ <;> (first | (rw [hc4.cell (by have := hc3.size; simp at this ⊢ <;> omega) (fun hf => by have := HFLT.out _ hf; dsimp only at this; omega)]; assumption) | (rw [hc3.cell (by simp <;> omega) (fun hf => by have := HFT.out _ hf; dsimp only at this; omega)]; assumption))))
    (first
      | (go_at_call 34; refine (cache_unpin_any c g m L B f k HF.out HK.out _ ((H2.out.same (by ((repeat (first | exact Chg.refl _ _ | assumption | refine Chg.drewN ?_ _ | refine Chg.drew ?_ | refine Chg.alloc ?_ _ | refine Chg.setCell ?_ (by simp) _))))).ca)).mono ?_; rintro e w3 ⟨rfl, h3, hc3⟩)
      | (go_at_call 54; refine (ref_pin_any r rb v L B f k _ (((H2.out.same (by ((repeat (first | exact Chg.refl _ _ | assumption | refine Chg.drewN ?_ _ | refine Chg.drew ?_ | refine Chg.alloc ?_ _ | refine Chg.setCell ?_ (by simp) _))))).ref hc3).same (by ((repeat (first | exact Chg.refl _ _ | assumption | refine Chg.drewN ?_ _ | refine Chg.drew ?_ | refine Chg.alloc ?_ _ | refine Chg.setCell ?_ (by simp) _))))) (-1) (by decide) (by decide) (fun x hx => by have := HP.out x hx; omega)).mono ?_; rintro e w4 ⟨rfl, v4, hR4, hc4, hv4⟩))
  have hfin := fun W (hW : Chg (fun _ => False) w4 W) => ((((H2.out.same (by ((repeat (first | exact Chg.refl _ _ | assumption | refine Chg.drewN ?_ _ | refine Chg.drew ?_ | refine Chg.alloc ?_ _ | refine Chg.setCell ?_ (by simp) _))))).step h3 hc3 (ids_pin _ L f k (-1)) ⟨v4, hR4, hc4, hv4⟩).first (w := w) (by exact (HC02.out.drew))).last hW)
  have HFIN := Lib.hid hfin
  clear hfin h3 hc3 hR4 hc4 hv4
  go_wp2_with fail
  go_ret
  exact ⟨by simp, _, _, HFIN.out _ (by ((repeat (first | exact Chg.refl _ _ | assumption | refine Chg.drewN ?_ _ | refine Chg.drew ?_ | refine Chg.alloc ?_ _ | refine Chg.setCell ?_ (by simp) _)))), HP.out.pin f k (-1) (by decide), rfl, comes_pin L f k (-1) s⟩

set_option maxRecDepth 100000 in
set_option maxHeartbeats 4000000 in
theorem lc_act_unpin1 (c g m r rb : Nat) (v : Value) (L : List Node) (B : Bud) (d f k n : Int) (s : ByteArray) (p : Nat) (hf : In64 f) (hk : In64 k) (hn : In64 n) (hs : s.size ≤ 140737488355328) (hp : Pins p L) (hp1 : p ≤ 999999) (hd : d.tmod 7 = -3) (w : World) (h : Both w c g m r rb v L B) :
    Calls Try.prog 36 #[.pointer (some ⟨c, 0, none⟩), .pointer (some ⟨g, 0, none⟩), .pointer (some ⟨r, 0, none⟩), .agg #[.int .i64 d, .int .i64 f, .int .i64 k, .string s, .int .i64 n]] w (ActPost w c g m r rb v L B p f k s) := by
  have hlts := h.lts
  have HF := Lib.hid hf
  have HK := Lib.hid hk
  have hn1 : n ≤ 9223372036854775807 := hn.2
  have HP := Lib.hid hp
  have hsm := LSmall.of h.ca
  have HSM := Lib.hid hsm
  have HA := Lib.hid h.ca.ring.apart
  have HTOT := Lib.hid h.ca.tot
  have r1 := h.ra.blk.cell 1
  simp at r1
  have hrl := h.ra.blk.lt
  have H := Lib.hid h
  have HLT := Lib.hid hlts
  have h2 : Both ((w.alloc (.cells #[.int .i64 d, .int .i64 f, .int .i64 k, .string s, .int .i64 n] 46)).alloc (.cells #[.int .i64 f, .int .i64 k] 48)) c g m r rb v L B := h.same (by ((repeat (first | exact Chg.refl _ _ | assumption | refine Chg.drewN ?_ _ | refine Chg.drew ?_ | refine Chg.alloc ?_ _ | refine Chg.setCell ?_ (by simp) _))))
  have H2 := Lib.hid h2
  have hc02 : Chg (fun _ => False) w ((w.alloc (.cells #[.int .i64 d, .int .i64 f, .int .i64 k, .string s, .int .i64 n] 46)).alloc (.cells #[.int .i64 f, .int .i64 k] 48)) := by ((repeat (first | exact Chg.refl _ _ | assumption | refine Chg.drewN ?_ _ | refine Chg.drew ?_ | refine Chg.alloc ?_ _ | refine Chg.setCell ?_ (by simp) _)))
  have hact : Blk ((w.alloc (.cells #[.int .i64 d, .int .i64 f, .int .i64 k, .string s, .int .i64 n] 46)).alloc (.cells #[.int .i64 f, .int .i64 k] 48)) w.heap.size 46 #[.int .i64 d, .int .i64 f, .int .i64 k, .string s, .int .i64 n] := (Blk.new w _ _).chg (S := fun _ => False) (by ((repeat (first | exact Chg.refl _ _ | assumption | refine Chg.drewN ?_ _ | refine Chg.drew ?_ | refine Chg.alloc ?_ _ | refine Chg.setCell ?_ (by simp) _)))) (by simp)
  have hkey : Blk ((w.alloc (.cells #[.int .i64 d, .int .i64 f, .int .i64 k, .string s, .int .i64 n] 46)).alloc (.cells #[.int .i64 f, .int .i64 k] 48)) (w.heap.size + 1) 48 #[.int .i64 f, .int .i64 k] := by
    have := Blk.new (w.alloc (.cells #[.int .i64 d, .int .i64 f, .int .i64 k, .string s, .int .i64 n] 46)) 48 #[.int .i64 f, .int .i64 k]
    simpa using this
  have HACT := Lib.hid hact
  have HKEY := Lib.hid hkey
  have HC02 := Lib.hid hc02
  clear h hlts hf hk hn hp hsm h2 hact hkey hc02
  go_enter Try.func36, Try.ntmps36
  go_wp2_with fail
  have hft : ∀ y, FootC c g m L y → y < w.heap.size := fun y hy => HLT.out y (.inl hy)
  have hflt : ∀ y, RFoot r rb v y → y < w.heap.size := fun y hy => HLT.out y (.inr hy)
  have HFT := Lib.hid hft
  have HFLT := Lib.hid hflt
  clear hft hflt
  go_region_held3 (fun w' => w'.cell? ⟨w.heap.size, 1, none⟩ = some (.int .i64 f) ∧ w'.cell? ⟨w.heap.size, 2, none⟩ = some (.int .i64 k) ∧ w'.cell? ⟨w.heap.size + 1, 0, none⟩ = some (.int .i64 f) ∧ w'.cell? ⟨w.heap.size + 1, 1, none⟩ = some (.int .i64 k))
    (first | (go_keep; done) | (go_split_ands; refine ⟨?_, ?_, ?_, ?_⟩ <;> (first | (rw [hc4.cell (by have := hc3.size; simp at this ⊢ <;> omega) (fun hf => by have := HFLT.out _ hf; dsimp only at this; omega)]; assumption) | (rw [hc3.cell (by simp <;> omega) (fun hf => by have := HFT.out _ hf; dsimp only at this; omega)]; assumption))))
    (first
      | (go_at_call 34; refine (cache_unpin_any c g m L B f k HF.out HK.out _ ((H2.out.same (by ((repeat (first | exact Chg.refl _ _ | assumption | refine Chg.drewN ?_ _ | refine Chg.drew ?_ | refine Chg.alloc ?_ _ | refine Chg.setCell ?_ (by simp) _))))).ca)).mono ?_; rintro e w3 ⟨rfl, h3, hc3⟩)
      | (go_at_call 54; refine (ref_pin_any r rb v L B f k _ (((H2.out.same (by ((repeat (first | exact Chg.refl _ _ | assumption | refine Chg.drewN ?_ _ | refine Chg.drew ?_ | refine Chg.alloc ?_ _ | refine Chg.setCell ?_ (by simp) _))))).ref hc3).same (by ((repeat (first | exact Chg.refl _ _ | assumption | refine Chg.drewN ?_ _ | refine Chg.drew ?_ | refine Chg.alloc ?_ _ | refine Chg.setCell ?_ (by simp) _))))) (-1) (by decide) (by decide) (fun x hx => by have := HP.out x hx; omega)).mono ?_; rintro e w4 ⟨rfl, v4, hR4, hc4, hv4⟩))
  have hfin := fun W (hW : Chg (fun _ => False) w4 W) => ((((H2.out.same (by ((repeat (first | exact Chg.refl _ _ | assumption | refine Chg.drewN ?_ _ | refine Chg.drew ?_ | refine Chg.alloc ?_ _ | refine Chg.setCell ?_ (by simp) _))))).step h3 hc3 (ids_pin _ L f k (-1)) ⟨v4, hR4, hc4, hv4⟩).first (w := w) (by exact (HC02.out.drew))).last hW)
  have HFIN := Lib.hid hfin
  clear hfin h3 hc3 hR4 hc4 hv4
  go_wp2_with fail
  go_ret
  exact ⟨by simp, _, _, HFIN.out _ (by ((repeat (first | exact Chg.refl _ _ | assumption | refine Chg.drewN ?_ _ | refine Chg.drew ?_ | refine Chg.alloc ?_ _ | refine Chg.setCell ?_ (by simp) _)))), HP.out.pin f k (-1) (by decide), rfl, comes_pin L f k (-1) s⟩

set_option maxRecDepth 100000 in
set_option maxHeartbeats 4000000 in
theorem lc_act_shrink0 (c g m r rb : Nat) (v : Value) (L : List Node) (B : Bud) (d f k n : Int) (s : ByteArray) (p : Nat) (hf : In64 f) (hk : In64 k) (hn : In64 n) (hs : s.size ≤ 140737488355328) (hp : Pins p L) (hp1 : p ≤ 999999) (hd : d.tmod 7 = 5) (w : World) (h : Both w c g m r rb v L B) :
    Calls Try.prog 36 #[.pointer (some ⟨c, 0, none⟩), .pointer (some ⟨g, 0, none⟩), .pointer (some ⟨r, 0, none⟩), .agg #[.int .i64 d, .int .i64 f, .int .i64 k, .string s, .int .i64 n]] w (ActPost w c g m r rb v L B p f k s) := by
  have hlts := h.lts
  have HF := Lib.hid hf
  have HK := Lib.hid hk
  have hn1 : n ≤ 9223372036854775807 := hn.2
  have HP := Lib.hid hp
  have hsm := LSmall.of h.ca
  have HSM := Lib.hid hsm
  have HA := Lib.hid h.ca.ring.apart
  have HTOT := Lib.hid h.ca.tot
  have r1 := h.ra.blk.cell 1
  simp at r1
  have hrl := h.ra.blk.lt
  have H := Lib.hid h
  have HLT := Lib.hid hlts
  have h2 : Both ((w.alloc (.cells #[.int .i64 d, .int .i64 f, .int .i64 k, .string s, .int .i64 n] 46)).alloc (.cells #[.int .i64 f, .int .i64 k] 48)) c g m r rb v L B := h.same (by ((repeat (first | exact Chg.refl _ _ | assumption | refine Chg.drewN ?_ _ | refine Chg.drew ?_ | refine Chg.alloc ?_ _ | refine Chg.setCell ?_ (by simp) _))))
  have H2 := Lib.hid h2
  have hc02 : Chg (fun _ => False) w ((w.alloc (.cells #[.int .i64 d, .int .i64 f, .int .i64 k, .string s, .int .i64 n] 46)).alloc (.cells #[.int .i64 f, .int .i64 k] 48)) := by ((repeat (first | exact Chg.refl _ _ | assumption | refine Chg.drewN ?_ _ | refine Chg.drew ?_ | refine Chg.alloc ?_ _ | refine Chg.setCell ?_ (by simp) _)))
  have hact : Blk ((w.alloc (.cells #[.int .i64 d, .int .i64 f, .int .i64 k, .string s, .int .i64 n] 46)).alloc (.cells #[.int .i64 f, .int .i64 k] 48)) w.heap.size 46 #[.int .i64 d, .int .i64 f, .int .i64 k, .string s, .int .i64 n] := (Blk.new w _ _).chg (S := fun _ => False) (by ((repeat (first | exact Chg.refl _ _ | assumption | refine Chg.drewN ?_ _ | refine Chg.drew ?_ | refine Chg.alloc ?_ _ | refine Chg.setCell ?_ (by simp) _)))) (by simp)
  have hkey : Blk ((w.alloc (.cells #[.int .i64 d, .int .i64 f, .int .i64 k, .string s, .int .i64 n] 46)).alloc (.cells #[.int .i64 f, .int .i64 k] 48)) (w.heap.size + 1) 48 #[.int .i64 f, .int .i64 k] := by
    have := Blk.new (w.alloc (.cells #[.int .i64 d, .int .i64 f, .int .i64 k, .string s, .int .i64 n] 46)) 48 #[.int .i64 f, .int .i64 k]
    simpa using this
  have HACT := Lib.hid hact
  have HKEY := Lib.hid hkey
  have HC02 := Lib.hid hc02
  clear h hlts hf hk hn hp hsm h2 hact hkey hc02
  go_enter Try.func36, Try.ntmps36
  go_wp2_with fail
  have hft : ∀ y, FootC c g m L y → y < w.heap.size := fun y hy => HLT.out y (.inl hy)
  have hflt : ∀ y, RFoot r rb v y → y < w.heap.size := fun y hy => HLT.out y (.inr hy)
  have HFT := Lib.hid hft
  have HFLT := Lib.hid hflt
  clear hft hflt
  go_region_held3 (fun w' => w'.cell? ⟨w.heap.size, 4, none⟩ = some (.int .i64 n))
    (first | (go_keep; done) | (go_split_ands; refine ?_ <;> (first | (rw [hc4.cell (by have := hc3.size; simp at this ⊢ <;> omega) (fun hf => by have := HFLT.out _ hf; dsimp only at this; omega)]; assumption) | (rw [hc3.cell (by simp <;> omega) (fun hf => by have := HFT.out _ hf; dsimp only at this; omega)]; assumption))))
    (first
      | (go_at_call 32; refine (cache_shrink c g m L B n _ ((H2.out.same (by ((repeat (first | exact Chg.refl _ _ | assumption | refine Chg.drewN ?_ _ | refine Chg.drew ?_ | refine Chg.alloc ?_ _ | refine Chg.setCell ?_ (by simp) _))))).ca)).mono ?_; rintro e w3 ⟨rfl, h3, hc3⟩)
      | (go_at_call 56; refine (ref_shrink_any r rb v L B _ (((H2.out.same (by ((repeat (first | exact Chg.refl _ _ | assumption | refine Chg.drewN ?_ _ | refine Chg.drew ?_ | refine Chg.alloc ?_ _ | refine Chg.setCell ?_ (by simp) _))))).ref hc3).same (by ((repeat (first | exact Chg.refl _ _ | assumption | refine Chg.drewN ?_ _ | refine Chg.drew ?_ | refine Chg.alloc ?_ _ | refine Chg.setCell ?_ (by simp) _))))) n HSM.out.1 HSM.out.2 HA.out HTOT.out).mono ?_; rintro e w4 ⟨rfl, v4, hR4, hc4, hv4⟩))
  have hfin := fun W (hW : Chg (fun _ => False) w4 W) => ((((H2.out.same (by ((repeat (first | exact Chg.refl _ _ | assumption | refine Chg.drewN ?_ _ | refine Chg.drew ?_ | refine Chg.alloc ?_ _ | refine Chg.setCell ?_ (by simp) _))))).step h3 hc3 (ids_sub fun x hx => (shrink_sub L B n).subset hx) ⟨v4, hR4, hc4, hv4⟩).first (w := w) (by exact (HC02.out.drew))).last hW)
  have HFIN := Lib.hid hfin
  clear hfin h3 hc3 hR4 hc4 hv4
  go_wp2_with fail
  go_ret
  exact ⟨by simp, _, _, HFIN.out _ (by ((repeat (first | exact Chg.refl _ _ | assumption | refine Chg.drewN ?_ _ | refine Chg.drew ?_ | refine Chg.alloc ?_ _ | refine Chg.setCell ?_ (by simp) _)))), HP.out.sub fun x hx => (shrink_sub L B n).subset hx, shrink_l L B n, comes_sub f k s fun x hx => (shrink_sub L B n).subset hx⟩

set_option maxRecDepth 100000 in
set_option maxHeartbeats 4000000 in
theorem lc_act_shrink1 (c g m r rb : Nat) (v : Value) (L : List Node) (B : Bud) (d f k n : Int) (s : ByteArray) (p : Nat) (hf : In64 f) (hk : In64 k) (hn : In64 n) (hs : s.size ≤ 140737488355328) (hp : Pins p L) (hp1 : p ≤ 999999) (hd : d.tmod 7 = -5) (w : World) (h : Both w c g m r rb v L B) :
    Calls Try.prog 36 #[.pointer (some ⟨c, 0, none⟩), .pointer (some ⟨g, 0, none⟩), .pointer (some ⟨r, 0, none⟩), .agg #[.int .i64 d, .int .i64 f, .int .i64 k, .string s, .int .i64 n]] w (ActPost w c g m r rb v L B p f k s) := by
  have hlts := h.lts
  have HF := Lib.hid hf
  have HK := Lib.hid hk
  have hn1 : n ≤ 9223372036854775807 := hn.2
  have HP := Lib.hid hp
  have hsm := LSmall.of h.ca
  have HSM := Lib.hid hsm
  have HA := Lib.hid h.ca.ring.apart
  have HTOT := Lib.hid h.ca.tot
  have r1 := h.ra.blk.cell 1
  simp at r1
  have hrl := h.ra.blk.lt
  have H := Lib.hid h
  have HLT := Lib.hid hlts
  have h2 : Both ((w.alloc (.cells #[.int .i64 d, .int .i64 f, .int .i64 k, .string s, .int .i64 n] 46)).alloc (.cells #[.int .i64 f, .int .i64 k] 48)) c g m r rb v L B := h.same (by ((repeat (first | exact Chg.refl _ _ | assumption | refine Chg.drewN ?_ _ | refine Chg.drew ?_ | refine Chg.alloc ?_ _ | refine Chg.setCell ?_ (by simp) _))))
  have H2 := Lib.hid h2
  have hc02 : Chg (fun _ => False) w ((w.alloc (.cells #[.int .i64 d, .int .i64 f, .int .i64 k, .string s, .int .i64 n] 46)).alloc (.cells #[.int .i64 f, .int .i64 k] 48)) := by ((repeat (first | exact Chg.refl _ _ | assumption | refine Chg.drewN ?_ _ | refine Chg.drew ?_ | refine Chg.alloc ?_ _ | refine Chg.setCell ?_ (by simp) _)))
  have hact : Blk ((w.alloc (.cells #[.int .i64 d, .int .i64 f, .int .i64 k, .string s, .int .i64 n] 46)).alloc (.cells #[.int .i64 f, .int .i64 k] 48)) w.heap.size 46 #[.int .i64 d, .int .i64 f, .int .i64 k, .string s, .int .i64 n] := (Blk.new w _ _).chg (S := fun _ => False) (by ((repeat (first | exact Chg.refl _ _ | assumption | refine Chg.drewN ?_ _ | refine Chg.drew ?_ | refine Chg.alloc ?_ _ | refine Chg.setCell ?_ (by simp) _)))) (by simp)
  have hkey : Blk ((w.alloc (.cells #[.int .i64 d, .int .i64 f, .int .i64 k, .string s, .int .i64 n] 46)).alloc (.cells #[.int .i64 f, .int .i64 k] 48)) (w.heap.size + 1) 48 #[.int .i64 f, .int .i64 k] := by
    have := Blk.new (w.alloc (.cells #[.int .i64 d, .int .i64 f, .int .i64 k, .string s, .int .i64 n] 46)) 48 #[.int .i64 f, .int .i64 k]
    simpa using this
  have HACT := Lib.hid hact
  have HKEY := Lib.hid hkey
  have HC02 := Lib.hid hc02
  clear h hlts hf hk hn hp hsm h2 hact hkey hc02
  go_enter Try.func36, Try.ntmps36
  go_wp2_with fail
  have hft : ∀ y, FootC c g m L y → y < w.heap.size := fun y hy => HLT.out y (.inl hy)
  have hflt : ∀ y, RFoot r rb v y → y < w.heap.size := fun y hy => HLT.out y (.inr hy)
  have HFT := Lib.hid hft
  have HFLT := Lib.hid hflt
  clear hft hflt
  go_region_held3 (fun w' => w'.cell? ⟨w.heap.size, 4, none⟩ = some (.int .i64 n))
    (first | (go_keep; done) | (go_split_ands; refine ?_ <;> (first | (rw [hc4.cell (by have := hc3.size; simp at this ⊢ <;> omega) (fun hf => by have := HFLT.out _ hf; dsimp only at this; omega)]; assumption) | (rw [hc3.cell (by simp <;> omega) (fun hf => by have := HFT.out _ hf; dsimp only at this; omega)]; assumption))))
    (first
      | (go_at_call 32; refine (cache_shrink c g m L B n _ ((H2.out.same (by ((repeat (first | exact Chg.refl _ _ | assumption | refine Chg.drewN ?_ _ | refine Chg.drew ?_ | refine Chg.alloc ?_ _ | refine Chg.setCell ?_ (by simp) _))))).ca)).mono ?_; rintro e w3 ⟨rfl, h3, hc3⟩)
      | (go_at_call 56; refine (ref_shrink_any r rb v L B _ (((H2.out.same (by ((repeat (first | exact Chg.refl _ _ | assumption | refine Chg.drewN ?_ _ | refine Chg.drew ?_ | refine Chg.alloc ?_ _ | refine Chg.setCell ?_ (by simp) _))))).ref hc3).same (by ((repeat (first | exact Chg.refl _ _ | assumption | refine Chg.drewN ?_ _ | refine Chg.drew ?_ | refine Chg.alloc ?_ _ | refine Chg.setCell ?_ (by simp) _))))) n HSM.out.1 HSM.out.2 HA.out HTOT.out).mono ?_; rintro e w4 ⟨rfl, v4, hR4, hc4, hv4⟩))
  have hfin := fun W (hW : Chg (fun _ => False) w4 W) => ((((H2.out.same (by ((repeat (first | exact Chg.refl _ _ | assumption | refine Chg.drewN ?_ _ | refine Chg.drew ?_ | refine Chg.alloc ?_ _ | refine Chg.setCell ?_ (by simp) _))))).step h3 hc3 (ids_sub fun x hx => (shrink_sub L B n).subset hx) ⟨v4, hR4, hc4, hv4⟩).first (w := w) (by exact (HC02.out.drew))).last hW)
  have HFIN := Lib.hid hfin
  clear hfin h3 hc3 hR4 hc4 hv4
  go_wp2_with fail
  go_ret
  exact ⟨by simp, _, _, HFIN.out _ (by ((repeat (first | exact Chg.refl _ _ | assumption | refine Chg.drewN ?_ _ | refine Chg.drew ?_ | refine Chg.alloc ?_ _ | refine Chg.setCell ?_ (by simp) _)))), HP.out.sub fun x hx => (shrink_sub L B n).subset hx, shrink_l L B n, comes_sub f k s fun x hx => (shrink_sub L B n).subset hx⟩

set_option maxRecDepth 100000 in
set_option maxHeartbeats 4000000 in
theorem lc_act_put0 (c g m r rb : Nat) (v : Value) (L : List Node) (B : Bud) (d f k n : Int) (s : ByteArray) (p : Nat) (hf : In64 f) (hk : In64 k) (hn : In64 n) (hs : s.size ≤ 140737488355328) (hp : Pins p L) (hp1 : p ≤ 999999) (hd : d.tmod 7 = 0) (w : World) (h : Both w c g m r rb v L B) :
    Calls Try.prog 36 #[.pointer (some ⟨c, 0, none⟩), .pointer (some ⟨g, 0, none⟩), .pointer (some ⟨r, 0, none⟩), .agg #[.int .i64 d, .int .i64 f, .int .i64 k, .string s, .int .i64 n]] w (ActPost w c g m r rb v L B p f k s) := by
  have hlts := h.lts
  have HF := Lib.hid hf
  have HK := Lib.hid hk
  have hn1 : n ≤ 9223372036854775807 := hn.2
  have HP := Lib.hid hp
  have hsm := LSmall.of h.ca
  have HSM := Lib.hid hsm
  have HA := Lib.hid h.ca.ring.apart
  have HTOT := Lib.hid h.ca.tot
  have r1 := h.ra.blk.cell 1
  simp at r1
  have hrl := h.ra.blk.lt
  have H := Lib.hid h
  have HLT := Lib.hid hlts
  have h2 : Both ((w.alloc (.cells #[.int .i64 d, .int .i64 f, .int .i64 k, .string s, .int .i64 n] 46)).alloc (.cells #[.int .i64 f, .int .i64 k] 48)) c g m r rb v L B := h.same (by ((repeat (first | exact Chg.refl _ _ | assumption | refine Chg.drewN ?_ _ | refine Chg.drew ?_ | refine Chg.alloc ?_ _ | refine Chg.setCell ?_ (by simp) _))))
  have H2 := Lib.hid h2
  have hc02 : Chg (fun _ => False) w ((w.alloc (.cells #[.int .i64 d, .int .i64 f, .int .i64 k, .string s, .int .i64 n] 46)).alloc (.cells #[.int .i64 f, .int .i64 k] 48)) := by ((repeat (first | exact Chg.refl _ _ | assumption | refine Chg.drewN ?_ _ | refine Chg.drew ?_ | refine Chg.alloc ?_ _ | refine Chg.setCell ?_ (by simp) _)))
  have hact : Blk ((w.alloc (.cells #[.int .i64 d, .int .i64 f, .int .i64 k, .string s, .int .i64 n] 46)).alloc (.cells #[.int .i64 f, .int .i64 k] 48)) w.heap.size 46 #[.int .i64 d, .int .i64 f, .int .i64 k, .string s, .int .i64 n] := (Blk.new w _ _).chg (S := fun _ => False) (by ((repeat (first | exact Chg.refl _ _ | assumption | refine Chg.drewN ?_ _ | refine Chg.drew ?_ | refine Chg.alloc ?_ _ | refine Chg.setCell ?_ (by simp) _)))) (by simp)
  have hkey : Blk ((w.alloc (.cells #[.int .i64 d, .int .i64 f, .int .i64 k, .string s, .int .i64 n] 46)).alloc (.cells #[.int .i64 f, .int .i64 k] 48)) (w.heap.size + 1) 48 #[.int .i64 f, .int .i64 k] := by
    have := Blk.new (w.alloc (.cells #[.int .i64 d, .int .i64 f, .int .i64 k, .string s, .int .i64 n] 46)) 48 #[.int .i64 f, .int .i64 k]
    simpa using this
  have HACT := Lib.hid hact
  have HKEY := Lib.hid hkey
  have HC02 := Lib.hid hc02
  clear h hlts hf hk hn hp hsm h2 hact hkey hc02
  go_enter Try.func36, Try.ntmps36
  go_wp2_with fail
  have hft : ∀ y, FootC c g m L y → y < w.heap.size := fun y hy => HLT.out y (.inl hy)
  have hflt : ∀ y, RFoot r rb v y → y < w.heap.size := fun y hy => HLT.out y (.inr hy)
  have HFT := Lib.hid hft
  have HFLT := Lib.hid hflt
  clear hft hflt
  go_region_held3 (fun w' => w'.cell? ⟨w.heap.size, 1, none⟩ = some (.int .i64 f) ∧ w'.cell? ⟨w.heap.size, 2, none⟩ = some (.int .i64 k) ∧ w'.cell? ⟨w.heap.size, 3, none⟩ = some (.string s) ∧ w'.cell? ⟨w.heap.size + 1, 0, none⟩ = some (.int .i64 f) ∧ w'.cell? ⟨w.heap.size + 1, 1, none⟩ = some (.int .i64 k))
    (first | (go_keep; done) | (go_split_ands; refine ⟨?_, ?_, ?_, ?_, ?_⟩ <;> (first | (rw [hc4.cell (by have := hc3.size; simp at this ⊢ <;> omega) (fun hf => by have := HFLT.out _ hf; dsimp only at this; omega)]; assumption) | (rw [hc3.cell (by simp <;> omega) (fun hf => by have := HFT.out _ hf; dsimp only at this; omega)]; assumption))))
    (first
      | (go_at_call 26; refine (cache_put c g m L B f k HF.out HK.out s hs _ ((H2.out.same (by ((repeat (first | exact Chg.refl _ _ | assumption | refine Chg.drewN ?_ _ | refine Chg.drew ?_ | refine Chg.alloc ?_ _ | refine Chg.setCell ?_ (by simp) _))))).ca)).mono ?_; rintro e w3 ⟨i, hi, rfl, h3, hc3⟩)
      | (go_at_call 57; refine (ref_put_any r rb v L B f k _ (((H2.out.same (by ((repeat (first | exact Chg.refl _ _ | assumption | refine Chg.drewN ?_ _ | refine Chg.drew ?_ | refine Chg.alloc ?_ _ | refine Chg.setCell ?_ (by simp) _))))).ref hc3).same (by ((repeat (first | exact Chg.refl _ _ | assumption | refine Chg.drewN ?_ _ | refine Chg.drew ?_ | refine Chg.alloc ?_ _ | refine Chg.setCell ?_ (by simp) _))))) s i hs HSM.out.1 HSM.out.2 HA.out HTOT.out).mono ?_; rintro e w4 ⟨rfl, v4, hR4, hc4, hv4⟩))
  have hfin := fun W (hW : Chg (fun _ => False) w4 W) => ((((H2.out.same (by ((repeat (first | exact Chg.refl _ _ | assumption | refine Chg.drewN ?_ _ | refine Chg.drew ?_ | refine Chg.alloc ?_ _ | refine Chg.setCell ?_ (by simp) _))))).step h3 hc3 (ids_put L B f k s i hi) ⟨v4, hR4, hc4, hv4⟩).first (w := w) (by exact (HC02.out.drew))).last hW)
  have HFIN := Lib.hid hfin
  clear hfin h3 hc3 hR4 hc4 hv4
  go_wp2_with fail
  go_ret
  exact ⟨by simp, _, _, HFIN.out _ (by ((repeat (first | exact Chg.refl _ _ | assumption | refine Chg.drewN ?_ _ | refine Chg.drew ?_ | refine Chg.alloc ?_ _ | refine Chg.setCell ?_ (by simp) _)))), HP.out.put B f k s i, putM_l L B f k s i, comes_put L B f k s i⟩

set_option maxRecDepth 100000 in
set_option maxHeartbeats 4000000 in
theorem lc_act_change0 (c g m r rb : Nat) (v : Value) (L : List Node) (B : Bud) (d f k n : Int) (s : ByteArray) (p : Nat) (hf : In64 f) (hk : In64 k) (hn : In64 n) (hs : s.size ≤ 140737488355328) (hp : Pins p L) (hp1 : p ≤ 999999) (hd : d.tmod 7 = 6) (w : World) (h : Both w c g m r rb v L B) :
    Calls Try.prog 36 #[.pointer (some ⟨c, 0, none⟩), .pointer (some ⟨g, 0, none⟩), .pointer (some ⟨r, 0, none⟩), .agg #[.int .i64 d, .int .i64 f, .int .i64 k, .string s, .int .i64 n]] w (ActPost w c g m r rb v L B p f k s) := by
  have hlts := h.lts
  have HF := Lib.hid hf
  have HK := Lib.hid hk
  have hn1 : n ≤ 9223372036854775807 := hn.2
  have HP := Lib.hid hp
  have hsm := LSmall.of h.ca
  have HSM := Lib.hid hsm
  have HA := Lib.hid h.ca.ring.apart
  have HTOT := Lib.hid h.ca.tot
  have r1 := h.ra.blk.cell 1
  simp at r1
  have hrl := h.ra.blk.lt
  have H := Lib.hid h
  have HLT := Lib.hid hlts
  have h2 : Both ((w.alloc (.cells #[.int .i64 d, .int .i64 f, .int .i64 k, .string s, .int .i64 n] 46)).alloc (.cells #[.int .i64 f, .int .i64 k] 48)) c g m r rb v L B := h.same (by ((repeat (first | exact Chg.refl _ _ | assumption | refine Chg.drewN ?_ _ | refine Chg.drew ?_ | refine Chg.alloc ?_ _ | refine Chg.setCell ?_ (by simp) _))))
  have H2 := Lib.hid h2
  have hc02 : Chg (fun _ => False) w ((w.alloc (.cells #[.int .i64 d, .int .i64 f, .int .i64 k, .string s, .int .i64 n] 46)).alloc (.cells #[.int .i64 f, .int .i64 k] 48)) := by ((repeat (first | exact Chg.refl _ _ | assumption | refine Chg.drewN ?_ _ | refine Chg.drew ?_ | refine Chg.alloc ?_ _ | refine Chg.setCell ?_ (by simp) _)))
  have hact : Blk ((w.alloc (.cells #[.int .i64 d, .int .i64 f, .int .i64 k, .string s, .int .i64 n] 46)).alloc (.cells #[.int .i64 f, .int .i64 k] 48)) w.heap.size 46 #[.int .i64 d, .int .i64 f, .int .i64 k, .string s, .int .i64 n] := (Blk.new w _ _).chg (S := fun _ => False) (by ((repeat (first | exact Chg.refl _ _ | assumption | refine Chg.drewN ?_ _ | refine Chg.drew ?_ | refine Chg.alloc ?_ _ | refine Chg.setCell ?_ (by simp) _)))) (by simp)
  have hkey : Blk ((w.alloc (.cells #[.int .i64 d, .int .i64 f, .int .i64 k, .string s, .int .i64 n] 46)).alloc (.cells #[.int .i64 f, .int .i64 k] 48)) (w.heap.size + 1) 48 #[.int .i64 f, .int .i64 k] := by
    have := Blk.new (w.alloc (.cells #[.int .i64 d, .int .i64 f, .int .i64 k, .string s, .int .i64 n] 46)) 48 #[.int .i64 f, .int .i64 k]
    simpa using this
  have HACT := Lib.hid hact
  have HKEY := Lib.hid hkey
  have HC02 := Lib.hid hc02
  clear h hlts hf hk hn hp hsm h2 hact hkey hc02
  go_enter Try.func36, Try.ntmps36
  go_wp2_with fail
  have hft : ∀ y, FootC c g m L y → y < w.heap.size := fun y hy => HLT.out y (.inl hy)
  have hflt : ∀ y, RFoot r rb v y → y < w.heap.size := fun y hy => HLT.out y (.inr hy)
  have HFT := Lib.hid hft
  have HRB := Lib.hid H.out.ra.apart.1
  have HAP := Lib.hid H.out.apart
  have HFLT := Lib.hid hflt
  clear hft hflt
  go_region_held3 (fun w' => w'.cell? ⟨w.heap.size, 4, none⟩ = some (.int .i64 n) ∧ w'.cell? ⟨r, 1, none⟩ = some (.pointer (some ⟨rb, 0, none⟩)))
    (first | (go_keep; done) | (go_split_ands; refine ⟨?_, ?_⟩ <;> (first | (rw [hc4.cell (by have := hc3.size; simp at this ⊢ <;> omega) (fun hf => by have := HFLT.out _ (.inr (.inl hf)); dsimp only at this; omega)]; assumption) | (rw [hc4.cell (by have := hc3.size; simp at this ⊢; omega) HRB.out]; assumption) | (rw [hc3.cell (by simp; omega) (fun hf => HAP.out r hf (.inl rfl))]; assumption) | (rw [hc3.cell (by simp <;> omega) (fun hf => by have := HFT.out _ hf; dsimp only at this; omega)]; assumption))))
    (first
      | (go_at_call 15; refine (cache_change c g m L B n hn1 _ ((H2.out.same (by ((repeat (first | exact Chg.refl _ _ | assumption | refine Chg.drewN ?_ _ | refine Chg.drew ?_ | refine Chg.alloc ?_ _ | refine Chg.setCell ?_ (by simp) _))))).ca)).mono ?_; rintro e w3 ⟨rfl, h3, hc3⟩)
      | (go_at_call 42; refine (rbud_change rb B 0 n _ ((((H2.out.same (by ((repeat (first | exact Chg.refl _ _ | assumption | refine Chg.drewN ?_ _ | refine Chg.drew ?_ | refine Chg.alloc ?_ _ | refine Chg.setCell ?_ (by simp) _))))).ref hc3).same (by ((repeat (first | exact Chg.refl _ _ | assumption | refine Chg.drewN ?_ _ | refine Chg.drew ?_ | refine Chg.alloc ?_ _ | refine Chg.setCell ?_ (by simp) _))))).bud) hn1).mono ?_; rintro e w4 ⟨rfl, hb4, hc4⟩))
  have hfin := fun W (hW : Chg (fun _ => False) w4 W) => ((((H2.out.same (by ((repeat (first | exact Chg.refl _ _ | assumption | refine Chg.drewN ?_ _ | refine Chg.drew ?_ | refine Chg.alloc ?_ _ | refine Chg.setCell ?_ (by simp) _))))).step h3 hc3 (ids_sub fun x hx => hx) (RStep.change (((H2.out.same (by ((repeat (first | exact Chg.refl _ _ | assumption | refine Chg.drewN ?_ _ | refine Chg.drew ?_ | refine Chg.alloc ?_ _ | refine Chg.setCell ?_ (by simp) _))))).ref hc3).same (by ((repeat (first | exact Chg.refl _ _ | assumption | refine Chg.drewN ?_ _ | refine Chg.drew ?_ | refine Chg.alloc ?_ _ | refine Chg.setCell ?_ (by simp) _))))) hb4 hc4)).first (w := w) (by exact (HC02.out.drew))).last hW)
  have HFIN := Lib.hid hfin
  clear hfin h3 hc3 hb4 hc4
  go_wp2_with fail
  go_ret
  exact ⟨by simp, _, _, HFIN.out _ (by ((repeat (first | exact Chg.refl _ _ | assumption | refine Chg.drewN ?_ _ | refine Chg.drew ?_ | refine Chg.alloc ?_ _ | refine Chg.setCell ?_ (by simp) _)))), HP.out.sub fun x hx => hx, change_l B 0 n, comes_sub f k s fun x hx => hx⟩

set_option maxRecDepth 100000 in
set_option maxHeartbeats 4000000 in
theorem lc_act_change1 (c g m r rb : Nat) (v : Value) (L : List Node) (B : Bud) (d f k n : Int) (s : ByteArray) (p : Nat) (hf : In64 f) (hk : In64 k) (hn : In64 n) (hs : s.size ≤ 140737488355328) (hp : Pins p L) (hp1 : p ≤ 999999) (hd : d.tmod 7 = -6) (w : World) (h : Both w c g m r rb v L B) :
    Calls Try.prog 36 #[.pointer (some ⟨c, 0, none⟩), .pointer (some ⟨g, 0, none⟩), .pointer (some ⟨r, 0, none⟩), .agg #[.int .i64 d, .int .i64 f, .int .i64 k, .string s, .int .i64 n]] w (ActPost w c g m r rb v L B p f k s) := by
  have hlts := h.lts
  have HF := Lib.hid hf
  have HK := Lib.hid hk
  have hn1 : n ≤ 9223372036854775807 := hn.2
  have HP := Lib.hid hp
  have hsm := LSmall.of h.ca
  have HSM := Lib.hid hsm
  have HA := Lib.hid h.ca.ring.apart
  have HTOT := Lib.hid h.ca.tot
  have r1 := h.ra.blk.cell 1
  simp at r1
  have hrl := h.ra.blk.lt
  have H := Lib.hid h
  have HLT := Lib.hid hlts
  have h2 : Both ((w.alloc (.cells #[.int .i64 d, .int .i64 f, .int .i64 k, .string s, .int .i64 n] 46)).alloc (.cells #[.int .i64 f, .int .i64 k] 48)) c g m r rb v L B := h.same (by ((repeat (first | exact Chg.refl _ _ | assumption | refine Chg.drewN ?_ _ | refine Chg.drew ?_ | refine Chg.alloc ?_ _ | refine Chg.setCell ?_ (by simp) _))))
  have H2 := Lib.hid h2
  have hc02 : Chg (fun _ => False) w ((w.alloc (.cells #[.int .i64 d, .int .i64 f, .int .i64 k, .string s, .int .i64 n] 46)).alloc (.cells #[.int .i64 f, .int .i64 k] 48)) := by ((repeat (first | exact Chg.refl _ _ | assumption | refine Chg.drewN ?_ _ | refine Chg.drew ?_ | refine Chg.alloc ?_ _ | refine Chg.setCell ?_ (by simp) _)))
  have hact : Blk ((w.alloc (.cells #[.int .i64 d, .int .i64 f, .int .i64 k, .string s, .int .i64 n] 46)).alloc (.cells #[.int .i64 f, .int .i64 k] 48)) w.heap.size 46 #[.int .i64 d, .int .i64 f, .int .i64 k, .string s, .int .i64 n] := (Blk.new w _ _).chg (S := fun _ => False) (by ((repeat (first | exact Chg.refl _ _ | assumption | refine Chg.drewN ?_ _ | refine Chg.drew ?_ | refine Chg.alloc ?_ _ | refine Chg.setCell ?_ (by simp) _)))) (by simp)
  have hkey : Blk ((w.alloc (.cells #[.int .i64 d, .int .i64 f, .int .i64 k, .string s, .int .i64 n] 46)).alloc (.cells #[.int .i64 f, .int .i64 k] 48)) (w.heap.size + 1) 48 #[.int .i64 f, .int .i64 k] := by
    have := Blk.new (w.alloc (.cells #[.int .i64 d, .int .i64 f, .int .i64 k, .string s, .int .i64 n] 46)) 48 #[.int .i64 f, .int .i64 k]
    simpa using this
  have HACT := Lib.hid hact
  have HKEY := Lib.hid hkey
  have HC02 := Lib.hid hc02
  clear h hlts hf hk hn hp hsm h2 hact hkey hc02
  go_enter Try.func36, Try.ntmps36
  go_wp2_with fail
  have hft : ∀ y, FootC c g m L y → y < w.heap.size := fun y hy => HLT.out y (.inl hy)
  have hflt : ∀ y, RFoot r rb v y → y < w.heap.size := fun y hy => HLT.out y (.inr hy)
  have HFT := Lib.hid hft
  have HRB := Lib.hid H.out.ra.apart.1
  have HAP := Lib.hid H.out.apart
  have HFLT := Lib.hid hflt
  clear hft hflt
  go_region_held3 (fun w' => w'.cell? ⟨w.heap.size, 4, none⟩ = some (.int .i64 n) ∧ w'.cell? ⟨r, 1, none⟩ = some (.pointer (some ⟨rb, 0, none⟩)))
    (first | (go_keep; done) | (go_split_ands; refine ⟨?_, ?_⟩ <;> (first | (rw [hc4.cell (by have := hc3.size; simp at this ⊢ <;> omega) (fun hf => by have := HFLT.out _ (.inr (.inl hf)); dsimp only at this; omega)]; assumption) | (rw [hc4.cell (by have := hc3.size; simp at this ⊢; omega) HRB.out]; assumption) | (rw [hc3.cell (by simp; omega) (fun hf => HAP.out r hf (.inl rfl))]; assumption) | (rw [hc3.cell (by simp <;> omega) (fun hf => by have := HFT.out _ hf; dsimp only at this; omega)]; assumption))))
    (first
      | (go_at_call 15; refine (cache_change c g m L B n hn1 _ ((H2.out.same (by ((repeat (first | exact Chg.refl _ _ | assumption | refine Chg.drewN ?_ _ | refine Chg.drew ?_ | refine Chg.alloc ?_ _ | refine Chg.setCell ?_ (by simp) _))))).ca)).mono ?_; rintro e w3 ⟨rfl, h3, hc3⟩)
      | (go_at_call 42; refine (rbud_change rb B 0 n _ ((((H2.out.same (by ((repeat (first | exact Chg.refl _ _ | assumption | refine Chg.drewN ?_ _ | refine Chg.drew ?_ | refine Chg.alloc ?_ _ | refine Chg.setCell ?_ (by simp) _))))).ref hc3).same (by ((repeat (first | exact Chg.refl _ _ | assumption | refine Chg.drewN ?_ _ | refine Chg.drew ?_ | refine Chg.alloc ?_ _ | refine Chg.setCell ?_ (by simp) _))))).bud) hn1).mono ?_; rintro e w4 ⟨rfl, hb4, hc4⟩))
  have hfin := fun W (hW : Chg (fun _ => False) w4 W) => ((((H2.out.same (by ((repeat (first | exact Chg.refl _ _ | assumption | refine Chg.drewN ?_ _ | refine Chg.drew ?_ | refine Chg.alloc ?_ _ | refine Chg.setCell ?_ (by simp) _))))).step h3 hc3 (ids_sub fun x hx => hx) (RStep.change (((H2.out.same (by ((repeat (first | exact Chg.refl _ _ | assumption | refine Chg.drewN ?_ _ | refine Chg.drew ?_ | refine Chg.alloc ?_ _ | refine Chg.setCell ?_ (by simp) _))))).ref hc3).same (by ((repeat (first | exact Chg.refl _ _ | assumption | refine Chg.drewN ?_ _ | refine Chg.drew ?_ | refine Chg.alloc ?_ _ | refine Chg.setCell ?_ (by simp) _))))) hb4 hc4)).first (w := w) (by exact (HC02.out.drew))).last hW)
  have HFIN := Lib.hid hfin
  clear hfin h3 hc3 hb4 hc4
  go_wp2_with fail
  go_ret
  exact ⟨by simp, _, _, HFIN.out _ (by ((repeat (first | exact Chg.refl _ _ | assumption | refine Chg.drewN ?_ _ | refine Chg.drew ?_ | refine Chg.alloc ?_ _ | refine Chg.setCell ?_ (by simp) _)))), HP.out.sub fun x hx => hx, change_l B 0 n, comes_sub f k s fun x hx => hx⟩

theorem lc_act (c g m r rb : Nat) (v : Value) (L : List Node) (B : Bud) (d f k n : Int) (s : ByteArray) (p : Nat) (hf : In64 f) (hk : In64 k) (hn : In64 n) (hs : s.size ≤ 140737488355328) (hp : Pins p L) (hp1 : p ≤ 999999) (w : World) (h : Both w c g m r rb v L B) :
    Calls Try.prog 36 #[.pointer (some ⟨c, 0, none⟩), .pointer (some ⟨g, 0, none⟩), .pointer (some ⟨r, 0, none⟩), .agg #[.int .i64 d, .int .i64 f, .int .i64 k, .string s, .int .i64 n]] w (ActPost w c g m r rb v L B p f k s) := by
  have hd : d.tmod 7 = 0 ∨ d.tmod 7 = 1 ∨ d.tmod 7 = -1 ∨ d.tmod 7 = 2 ∨ d.tmod 7 = -2 ∨ d.tmod 7 = 3 ∨ d.tmod 7 = -3 ∨ d.tmod 7 = 4 ∨ d.tmod 7 = -4 ∨ d.tmod 7 = 5 ∨ d.tmod 7 = -5 ∨ d.tmod 7 = 6 ∨ d.tmod 7 = -6 := by
    have h1 : d.tmod 7 < 7 := Int.tmod_lt_of_pos d (by decide)
    have h2 : -7 < d.tmod 7 := Int.lt_tmod_of_pos d (by decide)
    omega
  rcases hd with hd | hd | hd | hd | hd | hd | hd | hd | hd | hd | hd | hd | hd
  · exact lc_act_put0 c g m r rb v L B d f k n s p hf hk hn hs hp hp1 hd w h
  · exact lc_act_get0 c g m r rb v L B d f k n s p hf hk hn hs hp hp1 hd w h
  · exact lc_act_get1 c g m r rb v L B d f k n s p hf hk hn hs hp hp1 hd w h
  · exact lc_act_pin0 c g m r rb v L B d f k n s p hf hk hn hs hp hp1 hd w h
  · exact lc_act_pin1 c g m r rb v L B d f k n s p hf hk hn hs hp hp1 hd w h
  · exact lc_act_unpin0 c g m r rb v L B d f k n s p hf hk hn hs hp hp1 hd w h
  · exact lc_act_unpin1 c g m r rb v L B d f k n s p hf hk hn hs hp hp1 hd w h
  · exact lc_act_drop0 c g m r rb v L B d f k n s p hf hk hn hs hp hp1 hd w h
  · exact lc_act_drop1 c g m r rb v L B d f k n s p hf hk hn hs hp hp1 hd w h
  · exact lc_act_shrink0 c g m r rb v L B d f k n s p hf hk hn hs hp hp1 hd w h
  · exact lc_act_shrink1 c g m r rb v L B d f k n s p hf hk hn hs hp hp1 hd w h
  · exact lc_act_change0 c g m r rb v L B d f k n s p hf hk hn hs hp hp1 hd w h
  · exact lc_act_change1 c g m r rb v L B d f k n s p hf hk hn hs hp hp1 hd w h
end Go.Proofs.Ytafdgncjfiiekaa
