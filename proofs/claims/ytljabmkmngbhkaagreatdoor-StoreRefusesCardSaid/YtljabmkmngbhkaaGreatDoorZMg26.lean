/-
  The program's manifest: calls one behind the other; write, create.
  The program's manifest: calls of a disk, one behind the other; what write and create give.
  The library's sorts at a list in a block of its own: slices.Sort at []int64, slices.SortFunc at tables, by the two closures of a version's sort.
-/
import Derived.Test.YtljabmkmngbhkaaGreatDoorZMg25
import Derived.Outline
import Derived.Deep.DeepCutAuto
import Derived.Test.YtljabmkmngbhkaaGreatDoorLay
import Derived.Test.YtljabmkmngbhkaaGreatDoorZMg20
namespace Go.Proofs.YtljabmkmngbhkaaGreatDoor
open Go.RowKit
set_option linter.unusedVariables false
set_option linter.unusedSimpArgs false

abbrev FnV := Nat × Array Value × Array Value
def callC : Codec FnV := ⟨fun x => [.func (.func x.1) x.2.1 x.2.2], 1, 366, 368, .nilFunc, 8⟩
theorem callOk : callC.Ok := ⟨fun _ => rfl, by decide, fun x v hv => by simp [callC] at hv; subst hv; rfl, Tryz.underlying368, by kernel_rfl, rfl, by decide⟩
def Enters (l : List FnV) : Prop := ∀ x ∈ l, ∀ W : World, (callFunc x.1 (x.2.1 ++ x.2.2)).run Tryz.prog W = .ok (.enter x.1 (x.2.1 ++ x.2.2)) W
set_option maxRecDepth 100000 in
set_option maxHeartbeats 2000000 in
theorem ma_all (l : List FnV) (v : Value) (St : Nat → World → Prop) (Q : Int → World → Prop) (w : World) (h0 : St 0 w) (hl : l.length ≤ 1000)
    (hv : ∀ i W, St i W → Lst callC W v l) (hen : Enters l)
    (hs : ∀ i x, l[i]? = some x → ∀ W, St i W → Calls Tryz.prog x.1 (x.2.1 ++ x.2.2) W fun e w' => ∃ m : Int, e = .returned (.int .i64 m) ∧ ((m ≠ 0 ∧ Q m w') ∨ (m = 0 ∧ St (i + 1) w'))) :
    Calls Tryz.prog 256 #[v] w fun e w' => ∃ m : Int, e = .returned (.int .i64 m) ∧ ((m ≠ 0 ∧ Q m w') ∨ (m = 0 ∧ St l.length w')) := by
  obtain ⟨a, cap, rfl, _, _, _⟩ := (hv 0 w h0).form callOk
  have H0 := Lib.hid h0
  have HV := Lib.hid hv
  have HEN := Lib.hid hen
  have HS := Lib.hid hs
  clear h0 hv hen hs
  go_enter Tryz.func256, Tryz.ntmps256
  go_wp2_with fail
  go_loopw [8] (fun i wr => ∃ k : Nat, i = .int .i64 (k : Int) ∧ k ≤ l.length ∧ St k wr) (fun i _ => l.length - (intOf i).toNat)
  case atStart => exact ⟨0, rfl, Nat.zero_le _, H0.out⟩
  case round =>
    obtain ⟨k, rfl, hk, hst⟩ := hrel
    by_cases hlt : k < l.length
    · obtain ⟨⟨K, A, C⟩, hx⟩ : ∃ x, l[k]? = some x := ⟨l[k], List.getElem?_eq_getElem hlt⟩
      obtain ⟨hA, hB⟩ : l = l.take k ++ (K, A, C) :: l.drop (k + 1) ∧ (l.take k).length = k := by
        refine ⟨?_, by simp; omega⟩
        have : (K, A, C) = l[k] := by rw [List.getElem?_eq_getElem hlt] at hx; exact (Option.some.inj hx).symm
        rw [this]
        rw [List.getElem_cons_drop, List.take_append_drop]
      obtain ⟨a', cap', hva, _, _, hr⟩ := (HV.out _ _ hst).form callOk
      injection hva with e1 e2 e3
      subst e1 e3
      obtain ⟨b, rfl, hb, _, hcell⟩ := hr _ _ _ hA
      have x0 := hcell 0 _ rfl
      rw [hB] at x0
      simp only [callC, Nat.mul_one, Nat.add_zero] at x0
      have hcf := HEN.out (K, A, C) (List.mem_of_getElem? hx)
      have hcall := HS.out k (K, A, C) hx _ hst
      have HCALL := Lib.hid hcall
      have hq : decide ((k : Int) < (l.length : Int)) = true := by simp; omega
      clear hcall hst hr hcell hA hB
      go_wp2_with fail
      refine HCALL.out.mono ?_
      rintro e w1 ⟨m, rfl, hm⟩
      rcases hm with ⟨hn, hq⟩ | ⟨rfl, hq⟩
      · have hn1 : (m != 0) = true := by simp [hn]
        have hn2 : (m == 0) = false := by simp [hn]
        have HQ := Lib.hid hq
        clear hq
        go_wp2_with fail
        go_ret
        exact ⟨m, rfl, .inl ⟨hn, HQ.out⟩⟩
      · have HQ := Lib.hid hq
        clear hq
        have hi := IntWalk.i64_in ((k : Int) + 1) (by omega)
        go_wp2_with fail
        go_roundw
        · exact ⟨k + 1, by simp, by omega, HQ.out⟩
        · simp [intOf]; omega
    · have hke : k = l.length := by omega
      subst hke
      have hq : decide ((l.length : Int) < (l.length : Int)) = false := by simp
      have HQ := Lib.hid hst
      clear hst
      go_wp2_with fail
      go_ret
      exact ⟨0, rfl, .inr ⟨rfl, HQ.out⟩⟩
set_option maxRecDepth 100000 in
set_option maxHeartbeats 2000000 in
theorem ma_write (n s : ByteArray) (d : Nat) (w : World) :
    Calls Tryz.prog 260 #[.pointer (some ⟨d, 0, none⟩), .string n, .string s] w fun e w' => ∃ bd bn bs, e = .returned (.func (.func 312) #[] #[.pointer (some ⟨bd, 0, none⟩), .pointer (some ⟨bn, 0, none⟩), .pointer (some ⟨bs, 0, none⟩)]) ∧ Blk w' bd 36 #[.pointer (some ⟨d, 0, none⟩)] ∧ Blk w' bn 9 #[.string n] ∧ Blk w' bs 9 #[.string s] ∧ w.heap.size ≤ bd ∧ w.heap.size ≤ bn ∧ w.heap.size ≤ bs ∧ Chg (fun _ => False) w w' := by
  go_enter Tryz.func260, Tryz.ntmps260
  go_wp2_with fail
  go_ret
  exact ⟨_, _, _, rfl, ((Blk.new w _ _).alloc _).alloc _, (Blk.new1 w _ _ _).alloc _, Blk.new2 w _ _ _ _, by omega, by omega, by omega, (((Chg.refl _ _).alloc _).alloc _).alloc _⟩
set_option maxRecDepth 100000 in
set_option maxHeartbeats 2000000 in
theorem ma_create (n s : ByteArray) (d : Nat) (w : World) :
    Calls Tryz.prog 254 #[.pointer (some ⟨d, 0, none⟩), .string n, .string s] w fun e w' => ∃ bd bn bs, e = .returned (.func (.func 309) #[] #[.pointer (some ⟨bd, 0, none⟩), .pointer (some ⟨bn, 0, none⟩), .pointer (some ⟨bs, 0, none⟩)]) ∧ Blk w' bd 36 #[.pointer (some ⟨d, 0, none⟩)] ∧ Blk w' bn 9 #[.string n] ∧ Blk w' bs 9 #[.string s] ∧ w.heap.size ≤ bd ∧ w.heap.size ≤ bn ∧ w.heap.size ≤ bs ∧ Chg (fun _ => False) w w' := by
  go_enter Tryz.func254, Tryz.ntmps254
  go_wp2_with fail
  go_ret
  exact ⟨_, _, _, rfl, ((Blk.new w _ _).alloc _).alloc _, (Blk.new1 w _ _ _).alloc _, Blk.new2 w _ _ _ _, by omega, by omega, by omega, (((Chg.refl _ _).alloc _).alloc _).alloc _⟩
section
variable (n s : ByteArray) (hn : n.size ≤ maxLen) (hs : s.size ≤ 140737488355328) (d bd bn bs : Nat) (D : DiskV) (Y : Nat → Prop) (w0 w : World) (h : DY w0 w d D Y) (hb : Blk w bd 36 #[.pointer (some ⟨d, 0, none⟩)]) (hbn : Blk w bn 9 #[.string n]) (hbs : Blk w bs 9 #[.string s])
include hn h hb hbn
set_option maxRecDepth 100000 in
set_option maxHeartbeats 2000000 in
include hs hbs in
theorem ma_write_a (hD : DSmall D) : Calls Tryz.prog 313 #[.pointer (some ⟨bd, 0, none⟩), .pointer (some ⟨bn, 0, none⟩), .pointer (some ⟨bs, 0, none⟩)] w (YPost w0 w d Y (appendD D n s)) := by
  have hc := y_append w0 d D Y n hn hD w h s hs
  have x0 := hb.cell 0
  have x1 := hbn.cell 0
  have x2 := hbs.cell 0
  simp at x0 x1 x2
  have HC := Lib.hid hc
  clear hc h hb hbn hbs hD
  go_enter Tryz.func313, Tryz.ntmps313
  go_wp2_with fail
  refine HC.out.mono ?_
  rintro e w1 ⟨rfl, hd⟩
  have HD := Lib.hid hd
  clear hd
  go_wp2_with fail
  go_ret
  exact ⟨rfl, HD.out⟩
set_option maxRecDepth 100000 in
set_option maxHeartbeats 2000000 in
theorem ma_write_s (hD : DSmall D) : Calls Tryz.prog 314 #[.pointer (some ⟨bd, 0, none⟩), .pointer (some ⟨bn, 0, none⟩)] w (YPost w0 w d Y (syncD D n)) := by
  have hc := y_sync w0 d D Y n hn hD w h
  have x0 := hb.cell 0
  have x1 := hbn.cell 0
  simp at x0 x1
  have HC := Lib.hid hc
  clear hc h hb hbn hD
  go_enter Tryz.func314, Tryz.ntmps314
  go_wp2_with fail
  refine HC.out.mono ?_
  rintro e w1 ⟨rfl, hd⟩
  have HD := Lib.hid hd
  clear hd
  go_wp2_with fail
  go_ret
  exact ⟨rfl, HD.out⟩
set_option maxRecDepth 100000 in
set_option maxHeartbeats 2000000 in
theorem ma_create_c (hD : DSmall D) : Calls Tryz.prog 310 #[.pointer (some ⟨bd, 0, none⟩), .pointer (some ⟨bn, 0, none⟩)] w (YPost w0 w d Y (createD D n)) := by
  have hc := y_create w0 d D Y n hn hD w h
  have x0 := hb.cell 0
  have x1 := hbn.cell 0
  simp at x0 x1
  have HC := Lib.hid hc
  clear hc h hb hbn hD
  go_enter Tryz.func310, Tryz.ntmps310
  go_wp2_with fail
  refine HC.out.mono ?_
  rintro e w1 ⟨rfl, hd⟩
  have HD := Lib.hid hd
  clear hd
  go_wp2_with fail
  go_ret
  exact ⟨rfl, HD.out⟩
end
end Go.Proofs.YtljabmkmngbhkaaGreatDoor
namespace Go.Proofs.YtljabmkmngbhkaaGreatDoor
open Go.RowKit
set_option linter.unusedVariables false
set_option linter.unusedSimpArgs false

def seqV : List (DiskV → Int × DiskV) → DiskV → Int × DiskV
  | [], D => (0, D)
  | f :: fs, D => andV (f D) (seqV fs)
theorem seq_one (f : DiskV → Int × DiskV) : seqV [f] = f := by
  funext D
  show andV (f D) (fun D => (0, D)) = f D
  unfold andV
  split
  · rfl
  · rename_i h0
    simp only [ne_eq, Decidable.not_not] at h0
    rw [← h0]
/-- A call of the disk: what it is in the program, and what it makes. -/
abbrev CallV := FnV × (DiskV → Int × DiskV)
def vals (ps : List CallV) : List FnV := ps.map (·.1)
def seqC (ps : List CallV) (D : DiskV) : Int × DiskV := seqV (ps.map (·.2)) D
/-- Calls that a disk may be asked while the blocks of Y are watched. -/
structure Asks (B : Nat) (w0 w : World) (d : Nat) (Y : Nat → Prop) (p : CallV) : Prop where
  en : ∀ W : World, (callFunc p.1.1 (p.1.2.1 ++ p.1.2.2)).run Tryz.prog W = .ok (.enter p.1.1 (p.1.2.1 ++ p.1.2.2)) W
  sm : ∀ k D', PSm k D' → PSm (k + 4) (p.2 D').2
  call : ∀ k D' W, k ≤ B → PSm k D' → DY w0 W d D' Y → Kept Y w W → Calls Tryz.prog p.1.1 (p.1.2.1 ++ p.1.2.2) W (YPost w0 W d Y (p.2 D'))
theorem ma_seq (B : Nat) (ps : List CallV) (v : Value) (Y : Nat → Prop) (w0 w : World) (d : Nat) (D : DiskV) (m : Nat) (hl : ps.length ≤ 1000) (hm : m + 4 * ps.length ≤ B) (hD : PSm m D) (h : DY w0 w d D Y) (hv : Lst callC w v (vals ps)) (hvY : ∀ k, v.ownBlock = some k → Y k)
    (hp : ∀ p ∈ ps, Asks B w0 w d Y p) : Calls Tryz.prog 256 #[v] w (YPost w0 w d Y (seqC ps D)) := by
  have hlen : (vals ps).length = ps.length := by simp [vals]
  refine (ma_all (vals ps) v (fun i W => ∃ D', DY w0 W d D' Y ∧ Kept Y w W ∧ PSm (m + 4 * i) D' ∧ seqC ps D = seqC (ps.drop i) D')
    (fun k W => k = (seqC ps D).1 ∧ DY w0 W d (seqC ps D).2 Y ∧ Kept Y w W) w ⟨D, h, Kept.refl _ _, hD, rfl⟩ (by rw [hlen]; omega)
    (fun i W ⟨D', _, hk, _⟩ => hv.kept hk hvY) (fun x hx W => ?_) ?_).mono ?_
  · obtain ⟨p, hp', rfl⟩ := List.mem_map.1 hx
    exact (hp p hp').en W
  · rintro i x hx W ⟨D', hd, hk, hps, he⟩
    obtain ⟨p, hpi, rfl⟩ : ∃ p, ps[i]? = some p ∧ p.1 = x := by simpa [vals] using hx
    have hi := (List.getElem?_eq_some_iff.1 hpi).1
    have hA := hp p (List.mem_of_getElem? hpi)
    refine (hA.call (m + 4 * i) D' W (by omega) hps hd hk).mono ?_
    rintro e w' ⟨rfl, hd', hk'⟩
    have hdr : ps.drop i = p :: ps.drop (i + 1) := by
      rw [List.drop_eq_getElem_cons hi]
      rw [List.getElem?_eq_getElem hi] at hpi
      rw [Option.some.inj hpi]
    have he2 : seqC ps D = andV (p.2 D') (seqC (ps.drop (i + 1))) := by rw [he, hdr]; rfl
    refine ⟨_, rfl, ?_⟩
    by_cases h0 : (p.2 D').1 = 0
    · rw [andV_yes h0] at he2
      exact .inr ⟨h0, (p.2 D').2, hd', hk.then hk', by have := hA.sm _ _ hps; rw [show m + 4 * (i + 1) = m + 4 * i + 4 by omega]; exact this, he2⟩
    · rw [andV_no h0] at he2
      exact .inl ⟨h0, by rw [he2], by rw [he2]; exact hd', hk.then hk'⟩
  · rintro e W ⟨k, rfl, hq⟩
    rcases hq with ⟨_, rfl, hd, hk⟩ | ⟨rfl, D', hd, hk, _, he⟩
    · exact ⟨rfl, hd, hk⟩
    · have hnil : ps.drop (vals ps).length = [] := by rw [hlen]; simp
      rw [hnil] at he
      have he' : seqC ps D = (0, D') := he
      rw [he']
      exact ⟨rfl, hd, hk⟩
theorem y_back {w0 w w1 w' : World} {d : Nat} {Y Y' : Nat → Prop} {x : Int × DiskV} {e : Ending} (hY : ∀ k, Y k → Y' k) (hc : Kept Y w w1) (h : YPost w0 w1 d Y' x e w') : YPost w0 w d Y x e w' :=
  ⟨h.1, h.2.1.mono hY, hc.then (h.2.2.mono hY)⟩
section
variable (n s : ByteArray) (hn : n.size ≤ maxLen) (hs : s.size ≤ 140737488355328) (d bd bn bs : Nat) (Y : Nat → Prop) (w0 : World)
/-- The closure of write, and of create. -/
def writeC : CallV := ((312, #[], #[.pointer (some ⟨bd, 0, none⟩), .pointer (some ⟨bn, 0, none⟩), .pointer (some ⟨bs, 0, none⟩)]), fun D => writeM D n s)
def createC : CallV := ((309, #[], #[.pointer (some ⟨bd, 0, none⟩), .pointer (some ⟨bn, 0, none⟩), .pointer (some ⟨bs, 0, none⟩)]), fun D => createM D n s)
def appC : CallV := ((313, #[], #[.pointer (some ⟨bd, 0, none⟩), .pointer (some ⟨bn, 0, none⟩), .pointer (some ⟨bs, 0, none⟩)]), fun D => appendD D n s)
def synC : CallV := ((314, #[], #[.pointer (some ⟨bd, 0, none⟩), .pointer (some ⟨bn, 0, none⟩)]), fun D => syncD D n)
def makC : CallV := ((310, #[], #[.pointer (some ⟨bd, 0, none⟩), .pointer (some ⟨bn, 0, none⟩)]), fun D => createD D n)
def syncC : CallV := ((125, #[.pointer (some ⟨d, 0, none⟩)], #[]), syncDirD)
include hn hs
set_option maxRecDepth 100000 in
set_option maxHeartbeats 2000000 in
theorem ma_write_f (m : Nat) (D : DiskV) (hD : PSm m D) (hm : m ≤ 9990) (w : World) (h : DY w0 w d D Y) (hb : Blk w bd 36 #[.pointer (some ⟨d, 0, none⟩)]) (hbn : Blk w bn 9 #[.string n]) (hbs : Blk w bs 9 #[.string s]) (y1 : Y bd) (y2 : Y bn) (y3 : Y bs) :
    Calls Tryz.prog 312 #[.pointer (some ⟨bd, 0, none⟩), .pointer (some ⟨bn, 0, none⟩), .pointer (some ⟨bs, 0, none⟩)] w (YPost w0 w d Y (writeM D n s)) := by
  obtain ⟨ps, hps⟩ : ∃ ps : List CallV, ps = [appC n s bd bn bs, synC n bd bn] := ⟨_, rfl⟩
  obtain ⟨w1, hw1⟩ : ∃ w1, w1 = w.alloc (.cells #[.func (.func 313) #[] #[.pointer (some ⟨bd, 0, none⟩), .pointer (some ⟨bn, 0, none⟩), .pointer (some ⟨bs, 0, none⟩)], .func (.func 314) #[] #[.pointer (some ⟨bd, 0, none⟩), .pointer (some ⟨bn, 0, none⟩)]] 366) := ⟨_, rfl⟩
  have hc1 : Chg (fun _ => False) w w1 := by rw [hw1]; exact (Chg.refl _ _).alloc _
  have hsz : w1.heap.size = w.heap.size + 1 := by rw [hw1]; simp
  have hg : Blk w1 w.heap.size 366 #[.func (.func 313) #[] #[.pointer (some ⟨bd, 0, none⟩), .pointer (some ⟨bn, 0, none⟩), .pointer (some ⟨bs, 0, none⟩)], .func (.func 314) #[] #[.pointer (some ⟨bd, 0, none⟩), .pointer (some ⟨bn, 0, none⟩)]] := by rw [hw1]; exact Blk.new w _ _
  have hv : Lst callC w1 (.slice (some ⟨w.heap.size, 0, none⟩) 2 2) (vals ps) := by rw [hps]; exact Lst.of_block callOk (l := vals [appC n s bd bn bs, synC n bd bn]) hg rfl (by show 2 ≤ 1000000; omega)
  have hYg := h.grow hc1
  have hseq := ma_seq 10000 ps (.slice (some ⟨w.heap.size, 0, none⟩) 2 2) _ w0 w1 d D m (by rw [hps]; show 2 ≤ 1000; omega) (by rw [hps]; show m + 4 * 2 ≤ 10000; omega) hD hYg hv (fun k hk => by
      have : k = w.heap.size := by simpa [Value.ownBlock] using hk.symm
      subst this
      exact .inr ⟨Nat.le_refl _, by omega⟩) (fun p hp => by
    rw [hps] at hp
    rcases List.mem_cons.1 hp with rfl | hp
    · exact ⟨enters _ _ (by kernel_rfl), fun k D' hk => (p_bsm_append n s hk).by_ (by omega), fun k D' W hk hps hd hkp =>
        ma_write_a n s hn hs d bd bn bs D' _ w0 W hd ((hb.chg hc1 (by simp)).kept hkp (.inl y1)) ((hbn.chg hc1 (by simp)).kept hkp (.inl y2)) ((hbs.chg hc1 (by simp)).kept hkp (.inl y3)) (hps.ds (by omega))⟩
    · rw [List.mem_singleton.1 hp]
      exact ⟨enters _ _ (by kernel_rfl), fun k D' hk => (p_bsm_sync n hk).by_ (by omega), fun k D' W hk hps hd hkp =>
        ma_write_s n hn d bd bn D' _ w0 W hd ((hb.chg hc1 (by simp)).kept hkp (.inl y1)) ((hbn.chg hc1 (by simp)).kept hkp (.inl y2)) (hps.ds (by omega))⟩)
  have e1 : seqC ps D = writeM D n s := by
    rw [hps]
    show andV (appendD D n s) (seqV [fun D => syncD D n]) = _
    rw [seq_one]
    rfl
  rw [e1] at hseq
  have HS := Lib.hid hseq
  have HW1 := Lib.hid hw1
  have HC1 := Lib.hid hc1
  clear hseq hw1 hc1 hg hv hYg h hb hbn hbs hD e1 hsz hps
  go_enter Tryz.func312, Tryz.ntmps312
  go_upto_region 1 with fail
  go_wp2_with (rw [← HW1.out])
  refine HS.out.mono ?_
  rintro e w2 hq
  have hq2 := y_back (fun k hk => .inl hk) (Kept.of_chg HC1.out) hq
  clear hq
  obtain ⟨rfl, hq3⟩ := hq2
  have HQ := Lib.hid hq3
  clear hq3
  go_wp2_with fail
  go_ret
  exact ⟨rfl, HQ.out⟩
set_option maxRecDepth 100000 in
set_option maxHeartbeats 2000000 in
theorem ma_create_f (m : Nat) (D : DiskV) (hD : PSm m D) (hm : m ≤ 9980) (w : World) (h : DY w0 w d D Y) (hb : Blk w bd 36 #[.pointer (some ⟨d, 0, none⟩)]) (hbn : Blk w bn 9 #[.string n]) (hbs : Blk w bs 9 #[.string s]) (y1 : Y bd) (y2 : Y bn) (y3 : Y bs) :
    Calls Tryz.prog 309 #[.pointer (some ⟨bd, 0, none⟩), .pointer (some ⟨bn, 0, none⟩), .pointer (some ⟨bs, 0, none⟩)] w (YPost w0 w d Y (createM D n s)) := by
  have hwr := ma_write n s d w
  have x0 := hb.cell 0
  have x1 := hbn.cell 0
  have x2 := hbs.cell 0
  simp at x0 x1 x2
  have HWR := Lib.hid hwr
  have HD := Lib.hid hD
  have HH := Lib.hid h
  have HB := Lib.hid hb
  have HBN := Lib.hid hbn
  have HBS := Lib.hid hbs
  have HY1 := Lib.hid y1
  have HY2 := Lib.hid y2
  have HY3 := Lib.hid y3
  clear hwr hD h hb hbn hbs y1 y2 y3
  go_enter Tryz.func309, Tryz.ntmps309
  go_wp2_with fail
  refine HWR.out.mono ?_
  rintro e w1 ⟨cd, cn, cs, rfl, gd, gn, gs, l1, l2, l3, hc1⟩
  obtain ⟨w2, hw2⟩ : ∃ w2, w2 = w1.alloc (.cells #[.func (.func 310) #[] #[.pointer (some ⟨bd, 0, none⟩), .pointer (some ⟨bn, 0, none⟩)], .func (.func 312) #[] #[.pointer (some ⟨cd, 0, none⟩), .pointer (some ⟨cn, 0, none⟩), .pointer (some ⟨cs, 0, none⟩)]] 366) := ⟨_, rfl⟩
  have hc2 : Chg (fun _ => False) w1 w2 := by rw [hw2]; exact (Chg.refl _ _).alloc _
  have hsz : w2.heap.size = w1.heap.size + 1 := by rw [hw2]; simp
  have hg : Blk w2 w1.heap.size 366 #[.func (.func 310) #[] #[.pointer (some ⟨bd, 0, none⟩), .pointer (some ⟨bn, 0, none⟩)], .func (.func 312) #[] #[.pointer (some ⟨cd, 0, none⟩), .pointer (some ⟨cn, 0, none⟩), .pointer (some ⟨cs, 0, none⟩)]] := by rw [hw2]; exact Blk.new w1 _ _
  have hcc := hc1.then hc2
  have hs1 := hc1.size
  have hYg := HH.out.grow hcc
  have lt1 := gd.lt
  have lt2 := gn.lt
  have lt3 := gs.lt
  have hv : Lst callC w2 (.slice (some ⟨w1.heap.size, 0, none⟩) 2 2) (vals [makC n bd bn, writeC n s cd cn cs]) := Lst.of_block callOk (l := vals [makC n bd bn, writeC n s cd cn cs]) hg rfl (by show 2 ≤ 1000000; omega)
  have hseq := ma_seq 9990 [makC n bd bn, writeC n s cd cn cs] (.slice (some ⟨w1.heap.size, 0, none⟩) 2 2) _ w0 w2 d D m (by show 2 ≤ 1000; omega) (by show m + 4 * 2 ≤ 9990; omega) HD.out hYg hv (fun k hk => by
      have : k = w1.heap.size := by simpa [Value.ownBlock] using hk.symm
      subst this
      exact .inr ⟨by omega, by omega⟩) (fun p hp => by
    rcases List.mem_cons.1 hp with rfl | hp
    · exact ⟨enters _ _ (by kernel_rfl), fun k D' hk => (p_bsm_create n hk).by_ (by omega), fun k D' W hk hps hd hkp =>
        ma_create_c n hn d bd bn D' _ w0 W hd ((HB.out.chg hcc (by simp)).kept hkp (.inl HY1.out)) ((HBN.out.chg hcc (by simp)).kept hkp (.inl HY2.out)) (hps.ds (by omega))⟩
    · rw [List.mem_singleton.1 hp]
      refine ⟨enters _ _ (by kernel_rfl), fun k D' hk => (psm_write n s hk).by_ (by omega), fun k D' W hk hps hd hkp => ?_⟩
      exact ma_write_f n s hn hs d cd cn cs _ w0 k D' hps hk W hd ((gd.chg hc2 (by simp)).kept hkp (.inr ⟨by omega, by omega⟩)) ((gn.chg hc2 (by simp)).kept hkp (.inr ⟨by omega, by omega⟩)) ((gs.chg hc2 (by simp)).kept hkp (.inr ⟨by omega, by omega⟩)) (.inr ⟨by omega, by omega⟩) (.inr ⟨by omega, by omega⟩) (.inr ⟨by omega, by omega⟩))
  have e1 : seqC [makC n bd bn, writeC n s cd cn cs] D = createM D n s := by
    show andV (createD D n) (seqV [fun D => writeM D n s]) = _
    rw [seq_one]
    rfl
  rw [e1] at hseq
  have HS := Lib.hid hseq
  have HW2 := Lib.hid hw2
  have HCC := Lib.hid hcc
  clear hseq hw2 hcc hc1 hc2 hg hv hYg e1 hsz hs1 gd gn gs l1 l2 l3 lt1 lt2 lt3
  go_wp2_with (rw [← HW2.out])
  refine HS.out.mono ?_
  rintro e w3 hq
  have hq2 := y_back (fun k hk => .inl hk) (Kept.of_chg HCC.out) hq
  clear hq
  obtain ⟨rfl, hq3⟩ := hq2
  have HQ := Lib.hid hq3
  clear hq3
  go_wp2_with fail
  go_ret
  exact ⟨rfl, HQ.out⟩
end
end Go.Proofs.YtljabmkmngbhkaaGreatDoor
namespace Go.Proofs.YtljabmkmngbhkaaGreatDoor
open Go.RowKit Go.Sort
set_option linter.unusedVariables false
set_option linter.unusedSimpArgs false

/-! ### What the library's words for a sorted row say of a list -/
theorem putRow_blk {enc : Value → Value} {w : World} {g : Nat} {t : TypeId} {cs : Array Value} (hb : Blk w g t cs) (F : Array Value) (hF : F.size ≤ cs.size) (n : Nat) (os : Array Obj) :
    ∃ cs', Blk (grow (putRow id (Go.Sort.ahead w n) g 0 F) os) g t cs' ∧ cs'.size = cs.size ∧ cs'.toList.take F.size = F.toList := by
  refine ⟨putCells id 0 F cs, ?_, by simp [putCells], ?_⟩
  · have hlt := hb.lt
    have hb' : w.heap[g]? = some (.cells cs t (0, 0)) := hb
    have h1 : (mapBlock (Go.Sort.ahead w n) g (putCells id 0 F)).heap[g]? = some (.cells (putCells id 0 F cs) t (0, 0)) := by
      unfold mapBlock
      show (w.heap.modify g _)[g]? = _
      rw [Array.getElem?_modify, if_pos rfl, hb']
      rfl
    show ((mapBlock (Go.Sort.ahead w n) g (putCells id 0 F)).heap ++ os)[g]? = _
    rw [Array.getElem?_append_left (by
      have := (Array.getElem?_eq_some_iff.1 h1).1
      exact this), h1]
  · apply List.ext_getElem?
    intro i
    rw [List.getElem?_take]
    by_cases hi : i < F.size
    · rw [if_pos hi, Array.getElem?_toList, Array.getElem?_toList]
      unfold putCells
      rw [Array.getElem?_mapIdx, Array.getElem?_eq_getElem (by omega : i < cs.size), Array.getElem?_eq_getElem hi]
      simp [hi]
    · rw [if_neg hi, Array.getElem?_toList, Array.getElem?_eq_none (by omega)]
theorem putRow_chg {enc : Value → Value} (w : World) (g : Nat) (F : Array Value) (n : Nat) (os : Array Obj) : Chg (fun k => k = g) w (grow (putRow id (Go.Sort.ahead w n) g 0 F) os) := by
  refine ⟨rfl, rfl, rfl, ?_, fun k hk hn => ?_⟩
  · show w.heap.size ≤ ((w.heap.modify g _) ++ os).size
    simp
  · show ((w.heap.modify g _) ++ os)[k]? = _
    rw [Array.getElem?_append_left (by simpa using hk), Array.getElem?_modify, if_neg (fun e => hn e.symm)]
section
variable {α : Type} [Inhabited α] {C : Codec α}
theorem flatK_flat (hC : C.Ok) (d : Array α) : (flatK C.g C.k d).toList = d.toList.flatMap C.g := by
  apply List.ext_getElem?
  intro t
  by_cases ht : t < d.size * C.k
  · have hk := hC.pos
    have hq : t / C.k < d.size := Nat.div_lt_of_lt_mul (by rw [Nat.mul_comm]; exact ht)
    have hr : t % C.k < C.k := Nat.mod_lt _ hk
    have hd : d.toList = d.toList.take (t / C.k) ++ d.toList[t / C.k]'(by simpa using hq) :: d.toList.drop (t / C.k + 1) := by rw [← List.drop_eq_getElem_cons (by simpa using hq), List.take_append_drop]
    have hl : (d.toList.take (t / C.k)).length = t / C.k := by simp; omega
    have := flat_at hC.len (d.toList.take (t / C.k)) (d.toList[t / C.k]'(by simpa using hq)) (d.toList.drop (t / C.k + 1)) (t % C.k) ((C.g (d.toList[t / C.k]'(by simpa using hq)))[t % C.k]'(by rw [hC.len]; exact hr)) (by rw [List.getElem?_eq_getElem])
    rw [← hd, hl, Nat.div_add_mod' t C.k] at this
    rw [this, Array.getElem?_toList, Array.getElem?_eq_getElem (by rw [size_flatK]; exact ht)]
    have hg := get_flatK C.g C.k d t ht
    rw [getElem!_pos _ t (by rw [size_flatK]; exact ht)] at hg
    rw [hg, getElem!_pos d _ hq, getElem!_pos _ _ (by rw [hC.len]; exact hr)]
    simp
  · rw [List.getElem?_eq_none (by rw [Array.length_toList, size_flatK]; omega), List.getElem?_eq_none (by rw [flat_len hC.len, Array.length_toList]; omega)]
theorem holdsK_of {w : World} {v : Value} {l : List α} (hC : C.Ok) (h : Lst C w v l) {g : Nat} (hg : v.ownBlock = some g) : HoldsK C.g C.k w g 0 l.toArray := by
  have hfl := flatK_flat hC l.toArray
  intro j hj
  rw [size_flatK] at hj
  obtain ⟨a, cap, rfl, _, _, h3⟩ := Own.reads h
  have hn : 0 < l.length := by
    rcases Nat.eq_zero_or_pos l.length with h0 | h0
    · simp [h0] at hj
    · exact h0
  obtain ⟨b, rfl, hb, ho, hc⟩ := h3 hn
  rw [hg] at ho
  cases ho
  rw [Nat.zero_add]
  refine ⟨hc j _ ?_, Own.frozen h hg j⟩
  rw [← show (l.toArray).toList = l from rfl, ← hfl, Array.getElem?_toList, Array.getElem?_eq_getElem (by rw [size_flatK]; exact hj), getElem!_pos _ j (by rw [size_flatK]; exact hj)]
  rfl
theorem sortWorldK_lst {w : World} {v : Value} {l : List α} (hC : C.Ok) (h : Lst C w v l) {g : Nat} (hg : v.ownBlock = some g) (n : Nat) (d' : Array α) (hd : d'.size = l.length) (os : Array Obj) :
    Lst C (sortWorldK C.g C.k w g 0 n d' os) v d'.toList ∧ Chg (fun k => v.ownBlock = some k) w (sortWorldK C.g C.k w g 0 n d' os) := by
  have hfl := flatK_flat hC d'
  constructor
  · obtain ⟨hl, hr⟩ := h
    rcases hr with ⟨rfl, _⟩ | ⟨g', cap, cur, rfl, hb, hn, hm, hcs, ht⟩
    · simp [Value.ownBlock] at hg
    · simp [Value.ownBlock] at hg
      subst hg
      have hle : l.length * C.k ≤ cap * C.k := Nat.mul_le_mul_right _ hn
      obtain ⟨cs', hb', hsz, htk⟩ := putRow_blk (enc := id) (show Blk w g' C.e cur from hb) (flatK C.g C.k d') (by rw [size_flatK, hd]; omega) n os
      have hdl : d'.toList.length = l.length := by rw [Array.length_toList]; exact hd
      refine ⟨flat_len hC.len _, .inr ⟨g', cap, cs', by rw [hdl], hb', by rw [hdl]; exact hn, hm, by rw [hsz]; exact hcs, ?_⟩⟩
      rw [← hfl, ← htk, size_flatK, Array.length_toList]
  · exact (putRow_chg (enc := id) w g _ n os).mono fun k _ hk => by rw [hk]; exact hg
theorem perm_of_permIn {l : List α} {d' : Array α} (h : PermIn 0 l.toArray.size l.toArray d') : d'.size = l.length ∧ d'.toList.Perm l := by
  obtain ⟨h1, _, h3⟩ := h
  have h1' : d'.size = l.length := by simpa using h1
  refine ⟨h1', ?_⟩
  have e1 : d'.extract 0 l.toArray.size = d' := by
    rw [show l.toArray.size = d'.size from h1.symm]; simp
  have e2 : l.toArray.extract 0 l.toArray.size = l.toArray := by simp
  rw [e1, e2] at h3
  exact h3
theorem sorted_of {f : α → α → Bool} {d' : Array α} (h : SortedIn f 0 d'.size d') : Sorted f d'.toList := by
  unfold Sorted
  rw [List.pairwise_iff_getElem]
  intro i j hi hj hij
  simp only [Array.length_toList] at hi hj
  have := h i j (Nat.zero_le _) hij hj
  rw [getElem!_pos _ i hi, getElem!_pos _ j hj] at this
  simpa using this
end

/-! ### The closures -/
instance : Inhabited MetaV := ⟨⟨0, 0, ⟨#[]⟩, ⟨#[]⟩⟩⟩
def cf0 (a b : MetaV) : Int := Lib.compareInt b.file a.file
def cf1 (a b : MetaV) : Int := Lib.compareBytes a.lo.data.toList b.lo.data.toList
theorem lt0 (a b : MetaV) : ltOf cf0 a b = before 0 a b := by
  unfold ltOf cf0 before Lib.compareInt
  by_cases h1 : b.file < a.file
  · simp [h1]
  · by_cases h2 : b.file > a.file <;> simp [h1, h2]
theorem compareBytes_lt : ∀ (a b : List UInt8), (Lib.compareBytes a b < 0) ↔ Op.bytesLess a b = true
  | [], [] => by simp [Lib.compareBytes, Op.bytesLess]
  | [], _ :: _ => by simp [Lib.compareBytes, Op.bytesLess]
  | _ :: _, [] => by simp [Lib.compareBytes, Op.bytesLess]
  | x :: a, y :: b => by
    have ih := compareBytes_lt a b
    simp only [Lib.compareBytes, Op.bytesLess]
    by_cases h1 : x < y
    · simp [h1]
    · by_cases h2 : y < x
      · have : ¬ x = y := fun e => by subst e; exact h1 h2
        simp [h1, h2, this]
      · have : x = y := by
          have h1' : ¬ x.toNat < y.toNat := h1
          have h2' : ¬ y.toNat < x.toNat := h2
          exact UInt8.toNat_inj.1 (by omega)
        simp [h1, h2, this, ih]
theorem lt1 (a b : MetaV) : ltOf cf1 a b = before 1 a b := by
  unfold ltOf cf1 before
  rw [if_neg (by decide)]
  unfold sl
  rw [ByteArray.toList_eq, ByteArray.toList_eq]
  rw [Bool.eq_iff_iff, decide_eq_true_iff, compareBytes_lt]
theorem swoB (i : Nat) {f : MetaV → MetaV → Bool} (h : ∀ a b, f a b = before i a b) : SWO f where
  irrefl x := by rw [h]; exact before_irrefl i x
  trans x y z h1 h2 := by rw [h] at *; exact before_trans i x y z h1 h2
  ntrans x y z h1 h2 := by rw [h] at *; exact before_ntrans i x y z h1 h2

set_option maxRecDepth 100000 in
set_option maxHeartbeats 1000000 in
theorem sort1_any (x y : MetaV) (W : World) : Calls Tryz.prog 249 #[.agg #[.int .i64 x.file, .int .i64 x.size, .string x.lo, .string x.hi], .agg #[.int .i64 y.file, .int .i64 y.size, .string y.lo, .string y.hi]] W fun e w' => e = .returned (.int .i64 (cf0 x y)) ∧ ∃ q os', w' = grow (W.drewN q) os' := by
  have hcon := fun W' => AnyG.cmp_Compare_int Tryz.cmp64 y.file x.file W'
  change ∀ W', Calls Tryz.prog 250 _ _ _ at hcon
  unfold cf0
  generalize Lib.compareInt y.file x.file = r at hcon ⊢
  go_enter Tryz.func249, Tryz.ntmps249
  go_wp2_with (go_at_call 250; refine (hcon _).mono ?_; rintro e w' ⟨rfl, rfl⟩)
  go_ret
  exact ⟨rfl, 0, _, by rw [alloc_eq_grow, alloc_eq_grow, grow_grow]; rfl⟩
set_option maxRecDepth 100000 in
set_option maxHeartbeats 1000000 in
theorem sort2_any (x y : MetaV) (W : World) : Calls Tryz.prog 251 #[.agg #[.int .i64 x.file, .int .i64 x.size, .string x.lo, .string x.hi], .agg #[.int .i64 y.file, .int .i64 y.size, .string y.lo, .string y.hi]] W fun e w' => e = .returned (.int .i64 (cf1 x y)) ∧ ∃ q os', w' = grow (W.drewN q) os' := by
  have hcon := fun W' => Any.strings_Compare Tryz.strCmp x.lo y.lo W'
  change ∀ W', Calls Tryz.prog 191 _ _ _ at hcon
  unfold cf1
  generalize Lib.compareBytes x.lo.data.toList y.lo.data.toList = r at hcon ⊢
  go_enter Tryz.func251, Tryz.ntmps251
  go_wp2_with (go_at_call 191; refine (hcon _).mono ?_; rintro e w' ⟨rfl, rfl⟩)
  go_ret
  exact ⟨rfl, 0, _, by rw [alloc_eq_grow, alloc_eq_grow, grow_grow]; rfl⟩

/-! ### The sorts -/
/-- A level is sorted. -/
def SortPost (w : World) (i : Nat) (v : Value) (l : List MetaV) (e : Ending) (w' : World) : Prop :=
  e = .returned (.tuple #[]) ∧ ∃ l', Lst metaC w' v l' ∧ l'.Perm l ∧ Sorted (before i) l' ∧ Chg (fun k => v.ownBlock = some k) w w'
theorem sort_nil (fv : Value) (w : World) (i : Nat) : Calls Tryz.prog 248 #[.slice none 0 0, fv] w (SortPost w i (.slice none 0 0) []) := by
  have h := AnyF.slices_SortFunc_none { Tryz.sortM with } none 0 fv w
  change Calls Tryz.prog 248 _ _ _ at h
  exact h.mono fun e w' ⟨he, hw⟩ => by subst hw; exact ⟨he, [], Lst.nil _ _, List.Perm.refl _, by simp [Sorted], Chg.refl _ _⟩
theorem sort_level0 (v : Value) (l : List MetaV) (hl : l.length ≤ 1000000000) (w : World) (h : Lst metaC w v l) : Calls Tryz.prog 248 #[v, .func (.func 249) #[] #[]] w (SortPost w 0 v l) := by
  by_cases hn : v.ownBlock = none
  · rcases h.2 with ⟨rfl, h0⟩ | ⟨g, cap, cur, rfl, _⟩
    · obtain rfl := List.eq_nil_of_length_eq_zero h0
      exact sort_nil _ w 0
    · simp [Value.ownBlock] at hn
  · obtain ⟨g, hg⟩ := Option.ne_none_iff_exists'.1 hn
    obtain ⟨a, cap, rfl, _, _, h3⟩ := Own.form h
    have hH := holdsK_of metaOk h hg
    have hlt := h.lt hg
    have ha : a = some ⟨g, 0, none⟩ := by
      cases a with
      | none => simp [Value.ownBlock] at hg
      | some x =>
        obtain ⟨h4, h5, h6⟩ := h3.2 x rfl
        rw [hg] at h6
        obtain ⟨b, o, s⟩ := x
        simp at h4 h5 h6
        subst h4 h5 h6
        rfl
    subst ha
    have hcon := AnyQ.slices_SortFunc Tryz.sortM 4 (fun w => by kernel_rfl) (fun w => by kernel_rfl) mrow (fun _ => rfl) (fun x u hu => by simp [mrow] at hu; rcases hu with rfl | rfl | rfl | rfl <;> rfl) cf0 (swoB 0 lt0) 249 #[] g 0 cap l.toArray w (enters_of Tryz.func249 (by kernel_rfl) rfl)
      (fun _ _ _ _ x y => sort1_any x y _) hH hlt (by simp; omega)
    change Calls Tryz.prog 248 _ _ _ at hcon
    refine hcon.mono fun e w' ⟨he, d', n, os, hp, hs, hw⟩ => ?_
    subst hw
    obtain ⟨hd, hp⟩ := perm_of_permIn hp
    obtain ⟨h7, h8⟩ := sortWorldK_lst metaOk h hg n d' hd os
    refine ⟨he, d'.toList, h7, hp, ?_, h8⟩
    have := sorted_of (f := ltOf cf0) (d' := d') (by rw [hd]; simpa using hs)
    exact this.imp fun {a b} h => by rw [← lt0]; exact h
theorem sort_level (i : Nat) (hi : i ≠ 0) (v : Value) (l : List MetaV) (hl : l.length ≤ 1000000000) (w : World) (h : Lst metaC w v l) : Calls Tryz.prog 248 #[v, .func (.func 251) #[] #[]] w (SortPost w i v l) := by
  by_cases hn : v.ownBlock = none
  · rcases h.2 with ⟨rfl, h0⟩ | ⟨g, cap, cur, rfl, _⟩
    · obtain rfl := List.eq_nil_of_length_eq_zero h0
      exact sort_nil _ w i
    · simp [Value.ownBlock] at hn
  · obtain ⟨g, hg⟩ := Option.ne_none_iff_exists'.1 hn
    obtain ⟨a, cap, rfl, _, _, h3⟩ := Own.form h
    have hH := holdsK_of metaOk h hg
    have hlt := h.lt hg
    have ha : a = some ⟨g, 0, none⟩ := by
      cases a with
      | none => simp [Value.ownBlock] at hg
      | some x =>
        obtain ⟨h4, h5, h6⟩ := h3.2 x rfl
        rw [hg] at h6
        obtain ⟨b, o, s⟩ := x
        simp at h4 h5 h6
        subst h4 h5 h6
        rfl
    subst ha
    have hcon := AnyQ.slices_SortFunc Tryz.sortM 4 (fun w => by kernel_rfl) (fun w => by kernel_rfl) mrow (fun _ => rfl) (fun x u hu => by simp [mrow] at hu; rcases hu with rfl | rfl | rfl | rfl <;> rfl) cf1 (swoB 1 lt1) 251 #[] g 0 cap l.toArray w (enters_of Tryz.func251 (by kernel_rfl) rfl)
      (fun _ _ _ _ x y => sort2_any x y _) hH hlt (by simp; omega)
    change Calls Tryz.prog 248 _ _ _ at hcon
    refine hcon.mono fun e w' ⟨he, d', n, os, hp, hs, hw⟩ => ?_
    subst hw
    obtain ⟨hd, hp⟩ := perm_of_permIn hp
    obtain ⟨h7, h8⟩ := sortWorldK_lst metaOk h hg n d' hd os
    refine ⟨he, d'.toList, h7, hp, ?_, h8⟩
    have := sorted_of (f := ltOf cf1) (d' := d') (by rw [hd]; simpa using hs)
    exact this.imp fun {a b} h => by
      have h2 := (lt1 b a).symm.trans h
      unfold before at h2 ⊢
      rw [if_neg (by decide)] at h2
      rw [if_neg hi]
      exact h2
/-- slices.Sort at []int64. -/
def SortIPost (w : World) (v : Value) (l : List Int) (e : Ending) (w' : World) : Prop :=
  e = .returned (.tuple #[]) ∧ Lst i64C w' v (l.mergeSort fun x y => decide (x ≤ y)) ∧ Chg (fun k => v.ownBlock = some k) w w'
theorem sort_ints (v : Value) (l : List Int) (hl : l.length ≤ 1000000000) (w : World) (h : Lst i64C w v l) : Calls Tryz.prog 61 #[v] w (SortIPost w v l) := by
  by_cases hn : v.ownBlock = none
  · rcases h.2 with ⟨rfl, h0⟩ | ⟨g, cap, cur, rfl, _⟩
    · obtain rfl := List.eq_nil_of_length_eq_zero h0
      have h := AnyM.slices_Sort_int_none { Tryz.sort64 with } none 0 w
      change Calls Tryz.prog 61 _ _ _ at h
      exact h.mono fun e w' ⟨he, hw⟩ => by subst hw; exact ⟨he, by rw [List.mergeSort_nil]; exact Lst.nil _ _, Chg.refl _ _⟩
    · simp [Value.ownBlock] at hn
  · obtain ⟨g, hg⟩ := Option.ne_none_iff_exists'.1 hn
    obtain ⟨a, cap, rfl, _, _, h3⟩ := Own.form h
    have hlt := h.lt hg
    have ha : a = some ⟨g, 0, none⟩ := by
      cases a with
      | none => simp [Value.ownBlock] at hg
      | some x =>
        obtain ⟨h4, h5, h6⟩ := h3.2 x rfl
        rw [hg] at h6
        obtain ⟨b, o, s⟩ := x
        simp at h4 h5 h6
        subst h4 h5 h6
        rfl
    subst ha
    have hH : Holds (Value.int .i64) w g 0 l.toArray := by
      have := holdsK_of i64Ok h hg
      intro j hj
      have hj' : j < l.length := by simpa using hj
      have h1 := this j (by rw [size_flatK]; show j < l.toArray.size * 1; simpa using hj)
      have e : (flatK i64C.g i64C.k l.toArray)[j]! = Value.int .i64 l.toArray[j]! := by
        rw [get_flatK _ _ _ j (by show j < l.toArray.size * 1; simpa using hj)]
        show ([Value.int .i64 (l.toArray[j / 1]!)] : List Value)[j % 1]! = _
        rw [Nat.div_one, Nat.mod_one]; rfl
      rw [e] at h1
      exact h1
    have hcon := AnyM.slices_Sort_int Tryz.sort64 g 0 cap l w hH hlt (by omega)
    change Calls Tryz.prog 61 _ _ _ at hcon
    refine hcon.mono fun e w' ⟨he, n, os, hw⟩ => ?_
    subst hw
    have hlen : (l.mergeSort fun x y => decide (x ≤ y)).length = l.length := List.length_mergeSort _
    have e1 : putRow (Value.int .i64) (Go.Sort.ahead w n) g 0 (l.mergeSort fun x y => decide (x ≤ y)).toArray = putRow id (Go.Sort.ahead w n) g 0 (flatK i64C.g i64C.k (l.mergeSort fun x y => decide (x ≤ y)).toArray) := by
      generalize (l.mergeSort fun x y => decide (x ≤ y)).toArray = M
      have e2 : flatK i64C.g i64C.k M = M.map (Value.int .i64) := by
        apply Array.ext
        · rw [size_flatK, Array.size_map]; exact Nat.mul_one _
        · intro i h1 h2
          have hi : i < M.size := by simpa using h2
          have hg := get_flatK i64C.g i64C.k M i (by show i < M.size * 1; omega)
          rw [getElem!_pos _ i h1] at hg
          rw [hg, Array.getElem_map]
          show ([Value.int .i64 (M[i / 1]!)] : List Value)[i % 1]! = _
          rw [Nat.div_one, Nat.mod_one, getElem!_pos M i hi]
          rfl
      rw [e2]
      unfold putRow
      congr 1
      funext c
      unfold putCells
      apply Array.ext
      · simp
      · intro i h1 h2
        simp only [Array.getElem_mapIdx, Nat.zero_add, Nat.zero_le, true_and, Array.size_map, Nat.sub_zero, id]
        by_cases hi : i < M.size
        · rw [if_pos hi, if_pos hi, getElem!_pos M i hi, getElem!_pos _ i (by simpa using hi), Array.getElem_map]
        · rw [if_neg hi, if_neg hi]
    rw [e1]
    obtain ⟨h7, h8⟩ := sortWorldK_lst i64Ok h hg n (l.mergeSort fun x y => decide (x ≤ y)).toArray (by simp) os
    exact ⟨he, h7, h8⟩
end Go.Proofs.YtljabmkmngbhkaaGreatDoor
