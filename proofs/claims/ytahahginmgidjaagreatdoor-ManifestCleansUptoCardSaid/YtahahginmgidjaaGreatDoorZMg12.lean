/-
  The program's manifest: calls of a disk, one behind the other; what write and create give.
  Names of files: the document's File.
-/
import Derived.Test.YtahahginmgidjaaGreatDoorZMg11
import Derived.Deep.DeepCutAuto
import Derived.Deep.QuietTactic
import Derived.BigQuiet
import Derived.Laws.Strings
namespace Go.Proofs.YtahahginmgidjaaGreatDoor
open Go.RowKit
set_option linter.unusedVariables false
set_option linter.unusedSimpArgs false

def seqV : List (DiskV → Int × DiskV) → DiskV → Int × DiskV
  | [], D => (0, D)
  | f :: fs, D => andV (f D) (seqV fs)
theorem seq_one (f : DiskV → Int × DiskV) : seqV [f] = f := by
  funext D
  show andV (f D) (fun D => (0, D)) = f D
  unfold andV
  split
  · rfl
  · rename_i h0
    simp only [ne_eq, Decidable.not_not] at h0
    rw [← h0]
/-- A call of the disk: what it is in the program, and what it makes. -/
abbrev CallV := FnV × (DiskV → Int × DiskV)
def vals (ps : List CallV) : List FnV := ps.map (·.1)
def seqC (ps : List CallV) (D : DiskV) : Int × DiskV := seqV (ps.map (·.2)) D
/-- Calls that a disk may be asked while the blocks of Y are watched. -/
structure Asks (B : Nat) (w0 w : World) (d : Nat) (Y : Nat → Prop) (p : CallV) : Prop where
  en : ∀ W : World, (callFunc p.1.1 (p.1.2.1 ++ p.1.2.2)).run Tryz.prog W = .ok (.enter p.1.1 (p.1.2.1 ++ p.1.2.2)) W
  sm : ∀ k D', PSm k D' → PSm (k + 4) (p.2 D').2
  call : ∀ k D' W, k ≤ B → PSm k D' → DY w0 W d D' Y → Kept Y w W → Calls Tryz.prog p.1.1 (p.1.2.1 ++ p.1.2.2) W (YPost w0 W d Y (p.2 D'))
theorem ma_seq (B : Nat) (ps : List CallV) (v : Value) (Y : Nat → Prop) (w0 w : World) (d : Nat) (D : DiskV) (m : Nat) (hl : ps.length ≤ 1000) (hm : m + 4 * ps.length ≤ B) (hD : PSm m D) (h : DY w0 w d D Y) (hv : Lst callC w v (vals ps)) (hvY : ∀ k, v.ownBlock = some k → Y k)
    (hp : ∀ p ∈ ps, Asks B w0 w d Y p) : Calls Tryz.prog 41 #[v] w (YPost w0 w d Y (seqC ps D)) := by
  have hlen : (vals ps).length = ps.length := by simp [vals]
  refine (ma_all (vals ps) v (fun i W => ∃ D', DY w0 W d D' Y ∧ Kept Y w W ∧ PSm (m + 4 * i) D' ∧ seqC ps D = seqC (ps.drop i) D')
    (fun k W => k = (seqC ps D).1 ∧ DY w0 W d (seqC ps D).2 Y ∧ Kept Y w W) w ⟨D, h, Kept.refl _ _, hD, rfl⟩ (by rw [hlen]; omega)
    (fun i W ⟨D', _, hk, _⟩ => hv.kept hk hvY) (fun x hx W => ?_) ?_).mono ?_
  · obtain ⟨p, hp', rfl⟩ := List.mem_map.1 hx
    exact (hp p hp').en W
  · rintro i x hx W ⟨D', hd, hk, hps, he⟩
    obtain ⟨p, hpi, rfl⟩ : ∃ p, ps[i]? = some p ∧ p.1 = x := by simpa [vals] using hx
    have hi := (List.getElem?_eq_some_iff.1 hpi).1
    have hA := hp p (List.mem_of_getElem? hpi)
    refine (hA.call (m + 4 * i) D' W (by omega) hps hd hk).mono ?_
    rintro e w' ⟨rfl, hd', hk'⟩
    have hdr : ps.drop i = p :: ps.drop (i + 1) := by
      rw [List.drop_eq_getElem_cons hi]
      rw [List.getElem?_eq_getElem hi] at hpi
      rw [Option.some.inj hpi]
    have he2 : seqC ps D = andV (p.2 D') (seqC (ps.drop (i + 1))) := by rw [he, hdr]; rfl
    refine ⟨_, rfl, ?_⟩
    by_cases h0 : (p.2 D').1 = 0
    · rw [andV_yes h0] at he2
      exact .inr ⟨h0, (p.2 D').2, hd', hk.then hk', by have := hA.sm _ _ hps; rw [show m + 4 * (i + 1) = m + 4 * i + 4 by omega]; exact this, he2⟩
    · rw [andV_no h0] at he2
      exact .inl ⟨h0, by rw [he2], by rw [he2]; exact hd', hk.then hk'⟩
  · rintro e W ⟨k, rfl, hq⟩
    rcases hq with ⟨_, rfl, hd, hk⟩ | ⟨rfl, D', hd, hk, _, he⟩
    · exact ⟨rfl, hd, hk⟩
    · have hnil : ps.drop (vals ps).length = [] := by rw [hlen]; simp
      rw [hnil] at he
      have he' : seqC ps D = (0, D') := he
      rw [he']
      exact ⟨rfl, hd, hk⟩
theorem y_back {w0 w w1 w' : World} {d : Nat} {Y Y' : Nat → Prop} {x : Int × DiskV} {e : Ending} (hY : ∀ k, Y k → Y' k) (hc : Kept Y w w1) (h : YPost w0 w1 d Y' x e w') : YPost w0 w d Y x e w' :=
  ⟨h.1, h.2.1.mono hY, hc.then (h.2.2.mono hY)⟩
section
variable (n s : ByteArray) (hn : n.size ≤ maxLen) (hs : s.size ≤ 140737488355328) (d bd bn bs : Nat) (Y : Nat → Prop) (w0 : World)
/-- The closure of write, and of create. -/
def writeC : CallV := ((116, #[], #[.pointer (some ⟨bd, 0, none⟩), .pointer (some ⟨bn, 0, none⟩), .pointer (some ⟨bs, 0, none⟩)]), fun D => writeM D n s)
def createC : CallV := ((106, #[], #[.pointer (some ⟨bd, 0, none⟩), .pointer (some ⟨bn, 0, none⟩), .pointer (some ⟨bs, 0, none⟩)]), fun D => createM D n s)
def appC : CallV := ((117, #[], #[.pointer (some ⟨bd, 0, none⟩), .pointer (some ⟨bn, 0, none⟩), .pointer (some ⟨bs, 0, none⟩)]), fun D => appendD D n s)
def synC : CallV := ((118, #[], #[.pointer (some ⟨bd, 0, none⟩), .pointer (some ⟨bn, 0, none⟩)]), fun D => syncD D n)
def makC : CallV := ((107, #[], #[.pointer (some ⟨bd, 0, none⟩), .pointer (some ⟨bn, 0, none⟩)]), fun D => createD D n)
def syncC : CallV := ((32, #[.pointer (some ⟨d, 0, none⟩)], #[]), syncDirD)
include hn hs
set_option maxRecDepth 100000 in
set_option maxHeartbeats 2000000 in
theorem ma_write_f (m : Nat) (D : DiskV) (hD : PSm m D) (hm : m ≤ 9990) (w : World) (h : DY w0 w d D Y) (hb : Blk w bd 24 #[.pointer (some ⟨d, 0, none⟩)]) (hbn : Blk w bn 9 #[.string n]) (hbs : Blk w bs 9 #[.string s]) (y1 : Y bd) (y2 : Y bn) (y3 : Y bs) :
    Calls Tryz.prog 116 #[.pointer (some ⟨bd, 0, none⟩), .pointer (some ⟨bn, 0, none⟩), .pointer (some ⟨bs, 0, none⟩)] w (YPost w0 w d Y (writeM D n s)) := by
  obtain ⟨ps, hps⟩ : ∃ ps : List CallV, ps = [appC n s bd bn bs, synC n bd bn] := ⟨_, rfl⟩
  obtain ⟨w1, hw1⟩ : ∃ w1, w1 = w.alloc (.cells #[.func (.func 117) #[] #[.pointer (some ⟨bd, 0, none⟩), .pointer (some ⟨bn, 0, none⟩), .pointer (some ⟨bs, 0, none⟩)], .func (.func 118) #[] #[.pointer (some ⟨bd, 0, none⟩), .pointer (some ⟨bn, 0, none⟩)]] 111) := ⟨_, rfl⟩
  have hc1 : Chg (fun _ => False) w w1 := by rw [hw1]; exact (Chg.refl _ _).alloc _
  have hsz : w1.heap.size = w.heap.size + 1 := by rw [hw1]; simp
  have hg : Blk w1 w.heap.size 111 #[.func (.func 117) #[] #[.pointer (some ⟨bd, 0, none⟩), .pointer (some ⟨bn, 0, none⟩), .pointer (some ⟨bs, 0, none⟩)], .func (.func 118) #[] #[.pointer (some ⟨bd, 0, none⟩), .pointer (some ⟨bn, 0, none⟩)]] := by rw [hw1]; exact Blk.new w _ _
  have hv : Lst callC w1 (.slice (some ⟨w.heap.size, 0, none⟩) 2 2) (vals ps) := by rw [hps]; exact Lst.of_block callOk (l := vals [appC n s bd bn bs, synC n bd bn]) hg rfl (by show 2 ≤ 1000000; omega)
  have hYg := h.grow hc1
  have hseq := ma_seq 10000 ps (.slice (some ⟨w.heap.size, 0, none⟩) 2 2) _ w0 w1 d D m (by rw [hps]; show 2 ≤ 1000; omega) (by rw [hps]; show m + 4 * 2 ≤ 10000; omega) hD hYg hv (fun k hk => by
      have : k = w.heap.size := by simpa [Value.ownBlock] using hk.symm
      subst this
      exact .inr ⟨Nat.le_refl _, by omega⟩) (fun p hp => by
    rw [hps] at hp
    rcases List.mem_cons.1 hp with rfl | hp
    · exact ⟨enters _ _ (by kernel_rfl), fun k D' hk => (p_bsm_append n s hk).by_ (by omega), fun k D' W hk hps hd hkp =>
        ma_write_a n s hn hs d bd bn bs D' _ w0 W hd ((hb.chg hc1 (by simp)).kept hkp (.inl y1)) ((hbn.chg hc1 (by simp)).kept hkp (.inl y2)) ((hbs.chg hc1 (by simp)).kept hkp (.inl y3)) (hps.ds (by omega))⟩
    · rw [List.mem_singleton.1 hp]
      exact ⟨enters _ _ (by kernel_rfl), fun k D' hk => (p_bsm_sync n hk).by_ (by omega), fun k D' W hk hps hd hkp =>
        ma_write_s n hn d bd bn D' _ w0 W hd ((hb.chg hc1 (by simp)).kept hkp (.inl y1)) ((hbn.chg hc1 (by simp)).kept hkp (.inl y2)) (hps.ds (by omega))⟩)
  have e1 : seqC ps D = writeM D n s := by
    rw [hps]
    show andV (appendD D n s) (seqV [fun D => syncD D n]) = _
    rw [seq_one]
    rfl
  rw [e1] at hseq
  have HS := Lib.hid hseq
  have HW1 := Lib.hid hw1
  have HC1 := Lib.hid hc1
  clear hseq hw1 hc1 hg hv hYg h hb hbn hbs hD e1 hsz hps
  go_enter Tryz.func116, Tryz.ntmps116
  go_upto_region 1 with fail
  go_wp2_with (rw [← HW1.out])
  refine HS.out.mono ?_
  rintro e w2 hq
  have hq2 := y_back (fun k hk => .inl hk) (Kept.of_chg HC1.out) hq
  clear hq
  obtain ⟨rfl, hq3⟩ := hq2
  have HQ := Lib.hid hq3
  clear hq3
  go_wp2_with fail
  go_ret
  exact ⟨rfl, HQ.out⟩
set_option maxRecDepth 100000 in
set_option maxHeartbeats 2000000 in
theorem ma_create_f (m : Nat) (D : DiskV) (hD : PSm m D) (hm : m ≤ 9980) (w : World) (h : DY w0 w d D Y) (hb : Blk w bd 24 #[.pointer (some ⟨d, 0, none⟩)]) (hbn : Blk w bn 9 #[.string n]) (hbs : Blk w bs 9 #[.string s]) (y1 : Y bd) (y2 : Y bn) (y3 : Y bs) :
    Calls Tryz.prog 106 #[.pointer (some ⟨bd, 0, none⟩), .pointer (some ⟨bn, 0, none⟩), .pointer (some ⟨bs, 0, none⟩)] w (YPost w0 w d Y (createM D n s)) := by
  have hwr := ma_write n s d w
  have x0 := hb.cell 0
  have x1 := hbn.cell 0
  have x2 := hbs.cell 0
  simp at x0 x1 x2
  have HWR := Lib.hid hwr
  have HD := Lib.hid hD
  have HH := Lib.hid h
  have HB := Lib.hid hb
  have HBN := Lib.hid hbn
  have HBS := Lib.hid hbs
  have HY1 := Lib.hid y1
  have HY2 := Lib.hid y2
  have HY3 := Lib.hid y3
  clear hwr hD h hb hbn hbs y1 y2 y3
  go_enter Tryz.func106, Tryz.ntmps106
  go_wp2_with fail
  refine HWR.out.mono ?_
  rintro e w1 ⟨cd, cn, cs, rfl, gd, gn, gs, l1, l2, l3, hc1⟩
  obtain ⟨w2, hw2⟩ : ∃ w2, w2 = w1.alloc (.cells #[.func (.func 107) #[] #[.pointer (some ⟨bd, 0, none⟩), .pointer (some ⟨bn, 0, none⟩)], .func (.func 116) #[] #[.pointer (some ⟨cd, 0, none⟩), .pointer (some ⟨cn, 0, none⟩), .pointer (some ⟨cs, 0, none⟩)]] 111) := ⟨_, rfl⟩
  have hc2 : Chg (fun _ => False) w1 w2 := by rw [hw2]; exact (Chg.refl _ _).alloc _
  have hsz : w2.heap.size = w1.heap.size + 1 := by rw [hw2]; simp
  have hg : Blk w2 w1.heap.size 111 #[.func (.func 107) #[] #[.pointer (some ⟨bd, 0, none⟩), .pointer (some ⟨bn, 0, none⟩)], .func (.func 116) #[] #[.pointer (some ⟨cd, 0, none⟩), .pointer (some ⟨cn, 0, none⟩), .pointer (some ⟨cs, 0, none⟩)]] := by rw [hw2]; exact Blk.new w1 _ _
  have hcc := hc1.then hc2
  have hs1 := hc1.size
  have hYg := HH.out.grow hcc
  have lt1 := gd.lt
  have lt2 := gn.lt
  have lt3 := gs.lt
  have hv : Lst callC w2 (.slice (some ⟨w1.heap.size, 0, none⟩) 2 2) (vals [makC n bd bn, writeC n s cd cn cs]) := Lst.of_block callOk (l := vals [makC n bd bn, writeC n s cd cn cs]) hg rfl (by show 2 ≤ 1000000; omega)
  have hseq := ma_seq 9990 [makC n bd bn, writeC n s cd cn cs] (.slice (some ⟨w1.heap.size, 0, none⟩) 2 2) _ w0 w2 d D m (by show 2 ≤ 1000; omega) (by show m + 4 * 2 ≤ 9990; omega) HD.out hYg hv (fun k hk => by
      have : k = w1.heap.size := by simpa [Value.ownBlock] using hk.symm
      subst this
      exact .inr ⟨by omega, by omega⟩) (fun p hp => by
    rcases List.mem_cons.1 hp with rfl | hp
    · exact ⟨enters _ _ (by kernel_rfl), fun k D' hk => (p_bsm_create n hk).by_ (by omega), fun k D' W hk hps hd hkp =>
        ma_create_c n hn d bd bn D' _ w0 W hd ((HB.out.chg hcc (by simp)).kept hkp (.inl HY1.out)) ((HBN.out.chg hcc (by simp)).kept hkp (.inl HY2.out)) (hps.ds (by omega))⟩
    · rw [List.mem_singleton.1 hp]
      refine ⟨enters _ _ (by kernel_rfl), fun k D' hk => (psm_write n s hk).by_ (by omega), fun k D' W hk hps hd hkp => ?_⟩
      exact ma_write_f n s hn hs d cd cn cs _ w0 k D' hps hk W hd ((gd.chg hc2 (by simp)).kept hkp (.inr ⟨by omega, by omega⟩)) ((gn.chg hc2 (by simp)).kept hkp (.inr ⟨by omega, by omega⟩)) ((gs.chg hc2 (by simp)).kept hkp (.inr ⟨by omega, by omega⟩)) (.inr ⟨by omega, by omega⟩) (.inr ⟨by omega, by omega⟩) (.inr ⟨by omega, by omega⟩))
  have e1 : seqC [makC n bd bn, writeC n s cd cn cs] D = createM D n s := by
    show andV (createD D n) (seqV [fun D => writeM D n s]) = _
    rw [seq_one]
    rfl
  rw [e1] at hseq
  have HS := Lib.hid hseq
  have HW2 := Lib.hid hw2
  have HCC := Lib.hid hcc
  clear hseq hw2 hcc hc1 hc2 hg hv hYg e1 hsz hs1 gd gn gs l1 l2 l3 lt1 lt2 lt3
  go_wp2_with (rw [← HW2.out])
  refine HS.out.mono ?_
  rintro e w3 hq
  have hq2 := y_back (fun k hk => .inl hk) (Kept.of_chg HCC.out) hq
  clear hq
  obtain ⟨rfl, hq3⟩ := hq2
  have HQ := Lib.hid hq3
  clear hq3
  go_wp2_with fail
  go_ret
  exact ⟨rfl, HQ.out⟩
end
end Go.Proofs.YtahahginmgidjaaGreatDoor
namespace Go.Proofs.YtahahginmgidjaaGreatDoor
open Go.RowKit Go.Shelf
set_option linter.unusedVariables false
set_option linter.unusedSimpArgs false

end Go.Proofs.YtahahginmgidjaaGreatDoor
