/-
  The cache: the two closures, and 'all' at each of them.
-/
import Derived.Test.YtljabmkmngbhkaaGreatDoorZMg23
import Derived.Test.YtljabmkmngbhkaaGreatDoorZMg03
import Derived.Deep.LoopGhost
import Derived.Maps.AppendAt
import Derived.LaidEql
import Derived.Deep.AppendLies
namespace Go.Proofs.YtljabmkmngbhkaaGreatDoor
open Go.RowKit
set_option linter.unusedVariables false
set_option linter.unusedSimpArgs false

theorem shrinkF_yes (xb pl pn : Nat) (s : ByteArray) (l n : Int) (hs : s.size ≤ 140737488355328) (hl0 : 0 ≤ l) (hl : l ≤ 9000000000000000000) (hln : l < n) (hxl : ¬ pl = xb) (w : World) (h2 : w.cell? ⟨xb, 2, none⟩ = some (.string s)) (h3 : w.cell? ⟨xb, 3, none⟩ = some (.int .i64 0))
    (hpl : w.cell? ⟨pl, 0, none⟩ = some (.int .i64 l)) (hpn : w.cell? ⟨pn, 0, none⟩ = some (.int .i64 n)) (fl : w.frozen? ⟨pl, 0, none⟩ = false) :
    Calls Tryz.prog 165 #[.pointer (some ⟨xb, 0, none⟩), .pointer (some ⟨pl, 0, none⟩), .pointer (some ⟨pn, 0, none⟩)] w fun e w' => e = .returned (.bool true) ∧ ∃ m, (w.setCell ⟨pl, 0, none⟩ (.int .i64 (l + (64 + (s.size : Int))))).drewN m = w' := by
  go_enter Tryz.func165, Tryz.ntmps165
  go_wp2_with fail
  go_region_with (first | (go_at_call 166; refine (cache_cost s (by omega) _).mono ?_; rintro e w' ⟨rfl, rfl⟩))
  go_wp2_with fail
  all_goals go_ret
  all_goals exact ⟨rfl, 1, by rw [IntWalk.i64_in _ (by omega)]; rfl⟩

theorem shrinkF_no (xb pl pn : Nat) (l n p : Int) (hno : n ≤ l ∨ ¬ p = 0) (w : World) (h3 : w.cell? ⟨xb, 3, none⟩ = some (.int .i64 p))
    (hpl : w.cell? ⟨pl, 0, none⟩ = some (.int .i64 l)) (hpn : w.cell? ⟨pn, 0, none⟩ = some (.int .i64 n)) :
    Calls Tryz.prog 165 #[.pointer (some ⟨xb, 0, none⟩), .pointer (some ⟨pl, 0, none⟩), .pointer (some ⟨pn, 0, none⟩)] w fun e w' => e = .returned (.bool false) ∧ w = w' := by
  by_cases hln : l < n
  · have hp : (p == 0) = false := by simp; omega
    clear hno
    go_enter Tryz.func165, Tryz.ntmps165
    go_wp2_with fail
    go_ret
    exact ⟨rfl, rfl⟩
  · clear hno
    go_enter Tryz.func165, Tryz.ntmps165
    go_wp2_with fail
    go_ret
    exact ⟨rfl, rfl⟩

theorem run_neq_ptr_same {P : Program} (w : World) {tp te : TypeId} {j : TypeInfo} (a : Addr) (hp : P.underlying tp = some (.pointer te)) (hte : P.info? te = some j) :
    (binOp .neq tp (.pointer (some a)) (.pointer (some a))).run P w = .ok (.bool false) w := by
  have h : ∀ d : Nat, (Op.equalIn (d + 1) tp (.pointer (some a)) (.pointer (some a))).run P w = .ok true w := fun d => by
    simp [Op.equalIn, run_underlying hp, sizeOf, typeInfo, hte, run_sameAddr_same]
  simp only [binOp]
  simp [Op.equal, Op.maxDepth, h 9999]
theorem run_neq_ptr_other {P : Program} (w : World) {tp te : TypeId} {j : TypeInfo} {a b : Addr} {ca cb : Array Value} {ta tb : TypeId} (hp : P.underlying tp = some (.pointer te)) (hte : P.info? te = some j) (hsz : j.size ≠ 0)
    (hne : a ≠ b) (ha : Blk w a.block ta ca) (hb : Blk w b.block tb cb) :
    (binOp .neq tp (.pointer (some a)) (.pointer (some b))).run P w = .ok (.bool true) w := by
  have h : ∀ d : Nat, (Op.equalIn (d + 1) tp (.pointer (some a)) (.pointer (some b))).run P w = .ok false w := fun d => by
    simp [Op.equalIn, run_underlying hp, sizeOf, typeInfo, hte, hsz, run_sameAddr_other w hne ha hb]
  simp only [binOp]
  simp [Op.equal, Op.maxDepth, h 9999]
theorem info_kept : (Tryz.prog.info? 141).map (fun i => i.size) = some 6 := by kernel_rfl

theorem ownsRow_chg {S : Nat → Prop} {w w' : World} {base : Nat} {e : TypeId} {size : Nat} {v : Value} {n : Nat} {xs : List Value} (h : w.ownsRow base e size v n xs) (hc : Chg S w w') (hS : ∀ k, base ≤ k → ¬ S k) : w'.ownsRow base e size v n xs := by
  obtain ⟨h1, h2⟩ := h
  refine ⟨h1, ?_⟩
  rcases h2 with h2 | ⟨g, cap, cur, hv, hg, hh, r⟩
  · exact .inl h2
  · exact .inr ⟨g, cap, cur, hv, hg, (hc.block g (by
      rcases Nat.lt_or_ge g w.heap.size with h | h
      · exact h
      · rw [Array.getElem?_eq_none h] at hh; cases hh) (hS g hg)).trans hh, r⟩
theorem ownsRow_block {w : World} {base : Nat} {e : TypeId} {size : Nat} {v : Value} {n : Nat} {xs : List Value} (h : w.ownsRow base e size v n xs) {k : Nat} (hk : v.ownBlock = some k) : base ≤ k := by
  rcases h.2 with ⟨rfl, _⟩ | ⟨g, cap, cur, rfl, hg, _⟩
  · simp [Value.ownBlock] at hk
  · simp [Value.ownBlock] at hk
    omega
theorem ownsRow_none {w : World} {base : Nat} {e : TypeId} {size : Nat} : w.ownsRow base e size (.slice none 0 0) 0 [] := ⟨by simp, .inl ⟨rfl, rfl⟩⟩
theorem info_pkept : (Tryz.prog.info? 139).map (fun i => (i.zero, i.size, i.bytes)) = some (some (.pointer none), 1, 8) := by kernel_rfl

/-- Which nodes Shrink takes, and how much is left then. -/
def pick (n : Int) : Int → List Node → List Node × Int
  | l, [] => ([], l)
  | l, x :: xs => if l < n ∧ x.pins = 0 then (x :: (pick n (l + costOf x) xs).1, (pick n (l + costOf x) xs).2) else pick n l xs
def nptr (x : Node) : Value := .pointer (some ⟨x.id, 0, none⟩)
/-- A slice of the call's own that holds the nodes D. -/
def HoldsNodes (w : World) (base : Nat) (v : Value) (D : List Node) : Prop := w.ownsRow base 139 1 v D.length (D.map nptr)

def CAllPost (w : World) (pl : Nat) (D : List Node) (lf : Int) (e : Ending) (w' : World) : Prop :=
  ∃ v, e = .returned v ∧ HoldsNodes w' w.heap.size v D ∧ Blk w' pl 2 #[.int .i64 lf] ∧ Chg (fun k => k = pl) w w'

set_option maxRecDepth 100000 in
set_option maxHeartbeats 2000000 in
theorem cache_all_shrink (c g m : Nat) (L : List Node) (pl pn : Nat) (l n : Int) (w : World) (h : RingAt w c g m L) (hgood : ∀ x ∈ L, x.data.size ≤ 140737488355328) (hlen : L.length ≤ 17179869184)
    (hpl : Blk w pl 2 #[.int .i64 l]) (hpn : Blk w pn 2 #[.int .i64 n]) (hne : pl ≠ pn) (hl0 : 0 ≤ l) (hlt : l + total L ≤ 9000000000000000000) :
    Calls Tryz.prog 131 #[.pointer (some ⟨c, 0, none⟩), .func (.func 165) #[] #[.pointer (some ⟨pl, 0, none⟩), .pointer (some ⟨pn, 0, none⟩)]] w (CAllPost w pl (pick n l L).1 (pick n l L).2) := by
  obtain ⟨i0, hi, hz0, hz1, hz2⟩ := info_parts info_pkept
  have H := Lib.hid h
  have HG := Lib.hid hgood
  have HPL := Lib.hid hpl
  have HPN := Lib.hid hpn
  have c6 := h.blk.cell 6
  simp [cacheCells] at c6
  obtain ⟨hb, ho, hh, hf⟩ := headAd_form c L
  rw [hh] at c6
  simp only [ptr] at c6
  have HH := Lib.hid hh
  clear h hgood hpl hpn hh hf
  go_enter Tryz.func131, Tryz.ntmps131
  go_wp2_with fail
  go_loopg [5, 6] L.length (fun k out cur wr => ∃ A R D lf, L = A ++ R ∧ R.length = k ∧ cur = .pointer (some (headAd R (ring c))) ∧ HoldsNodes wr w.heap.size out D ∧ Blk wr pl 2 #[.int .i64 lf] ∧ Chg (fun k => k = pl) w wr ∧ D ++ (pick n lf R).1 = (pick n l L).1 ∧ (pick n lf R).2 = (pick n l L).2 ∧ 0 ≤ lf ∧ lf + total R ≤ 9000000000000000000 ∧ D.length + R.length ≤ L.length)
  case atStart => exact ⟨[], L, [], l, rfl, rfl, by rw [HH.out], ownsRow_none, HPL.out, Chg.refl _ _, rfl, rfl, hl0, hlt, by simp⟩
  case round =>
    obtain ⟨A, R, D, lf, hL, hk, rfl, hown, hbl, hc, hD, hlf, hlf0, hlft, hDR⟩ := hrel
    clear c6
    have hw : RingAt wr c g m L := H.out.chg (S := fun k => k = pl) hc (fun e => H.out.blk.ne_ HPL.out (by decide) e) (fun y hy e => by
      obtain ⟨_, _, hb⟩ := H.out.seg.blk hy
      exact hb.ne_ HPL.out (by decide) e)
    obtain ⟨j, hj, hjs⟩ := Option.map_eq_some_iff.1 info_kept
    have hj0 : j.size ≠ 0 := by omega
    cases R with
    | nil =>
      have hcmp := run_neq_ptr_same (P := Tryz.prog) wr ⟨c, 1, none⟩ Tryz.underlying139 hj
      simp only [pick, List.append_nil] at hD hlf
      have hfin : CAllPost w pl (pick n l L).1 (pick n l L).2 (.returned u5) wr := ⟨u5, rfl, by rw [← hD]; exact hown, by rw [← hlf]; exact hbl, hc⟩
      have HF := Lib.hid hfin
      clear hL hk hown hbl hc hD hlf hlf0 hlft hDR hw hj hfin H HH HG
      simp only [headAd, ring]
      go_wp2_with fail
      go_ret
      exact HF.out
    | cons y ys =>
      have hyL : y ∈ L := by rw [hL]; simp
      have hyc := hw.ne_ hyL
      rw [hL] at hw
      have hyb := hw.seg.at_
      have hcmp := run_neq_ptr_other (P := Tryz.prog) wr (a := ⟨y.id, 0, none⟩) (b := ⟨c, 1, none⟩) Tryz.underlying139 hj hj0 (by simp) hyb hw.blk
      have y2 := hyb.cell 2
      have y3 := hyb.cell 3
      have y5 := hyb.cell 5
      simp [nodeCells] at y2 y3 y5
      obtain ⟨nb, no, hnh, hnf⟩ := headAd_form c ys
      rw [hnh] at y5
      simp only [ptr] at y5
      have hpl0 := hbl.cell 0
      have hfl0 := hbl.frozen 0
      have hpn0 := (HPN.out.chg hc (fun e => hne e.symm)).cell 0
      simp at hpl0 hpn0
      have hplx : ¬ pl = y.id := fun e => hyb.ne_ hbl (by decide) e.symm
      have hylt := hyb.lt
      have hpllt := hbl.lt
      have hs := HG.out y hyL
      have htot : total (y :: ys) = costOf y + total ys := rfl
      have htn := total_nonneg ys
      have hcp := costOf_pos y
      have hcy : costOf y = 64 + (y.data.size : Int) := rfl
      simp only [List.length_cons] at hDR hk
      have hBL := HPL.out.lt
      have HL := Lib.hid hL
      have HOWN := Lib.hid hown
      have HBL := Lib.hid hbl
      have HC := Lib.hid hc
      have HD := Lib.hid hD
      have HLF := Lib.hid hlf
      have HNH := Lib.hid hnh
      have HT := Lib.hid htot
      have HCY := Lib.hid hcy
      have HW := Lib.hid hw
      have HYB := Lib.hid hyb
      simp only [headAd, nad]
      by_cases hsel : lf < n ∧ y.pins = 0
      · obtain ⟨hsl, hsp⟩ := hsel
        rw [hsp] at y3
        have hpk : pick n lf (y :: ys) = (y :: (pick n (lf + costOf y) ys).1, (pick n (lf + costOf y) ys).2) := by simp only [pick]; rw [if_pos ⟨hsl, hsp⟩]
        have HPK := Lib.hid hpk
        have hyes := shrinkF_yes y.id pl pn y.data lf n hs hlf0 (by omega) hsl hplx wr y2 y3 hpl0 hpn0 hfl0
        clear hL hown hbl hc hD hlf hw hj hnh htot hcy hpk hyb y2 y3
        go_wp2_with fail
        refine hyes.mono ?_
        rintro e w5 ⟨rfl, m5, hw5⟩
        have hc5 : Chg (fun k => k = pl) wr w5 := by rw [← hw5]; exact Chg.drewN (Chg.setCell (S := fun k => k = pl) (Chg.refl _ _) (fun _ => rfl) _) _
        have hb5 : Blk w5 pl 2 #[.int .i64 (lf + (64 + (y.data.size : Int)))] := by
          rw [← hw5]
          have := HBL.out.set_ 0 (.int .i64 (lf + (64 + (y.data.size : Int))))
          exact Blk.drewN (by simpa using this) m5
        have hown5 := ownsRow_chg HOWN.out hc5 (fun k hk e => by omega)
        have hy5 := (HYB.out.chg hc5 (fun e => hplx e.symm)).cell 5
        simp [nodeCells] at hy5
        rw [HNH.out] at hy5
        simp only [ptr] at hy5
        have hc05 := HC.out.then hc5
        have hs5 := hc5.size
        have hs0 := HC.out.size
        clear hw5 y5 hpl0 hfl0 hpn0 hyes hcmp
        go_wp2_with (at_builtin; refine wpList_append_own _ rfl _ _ 230 rfl w.heap.size 139 i0 (.pointer none) 1 8 Tryz.underlying230 hi hz0 hz1 hz2 rfl (by decide) _ _ _ rfl (hown5.alloc _) ⟨w5.heap.size, 0, none⟩ 1 1 [.pointer (some ⟨y.id, 0, none⟩)] rfl rfl ?c1 ?c2 ?c3 ?c4 ?c5 ?_)
        case c1 => exact World.news_of_block (cs := #[.pointer (some ⟨y.id, 0, none⟩)]) (t := 139) (fr := (0, 0)) (heap_alloc_new w5 _)
        case c2 => simp [Value.oneCell']
        case c3 => unfold maxLen; omega
        case c4 => omega
        case c5 => simp; omega
        intro v6 w6 hown6 hgr _
        have hc6 : Chg (fun k => k = pl) w w6 := (hc05.alloc _).grown hgr (fun k hk hlt => absurd (ownsRow_block hown5 hk) (by omega))
        have hw6 : RingAt w6 c g m L := H.out.chg (S := fun k => k = pl) hc6 (fun e => H.out.blk.ne_ HPL.out (by decide) e) (fun z hz e => by
          obtain ⟨_, _, hb⟩ := H.out.seg.blk hz
          exact hb.ne_ HPL.out (by decide) e)
        have hb6 : Blk w6 pl 2 #[.int .i64 (lf + costOf y)] := by
          rw [HCY.out]
          exact (hgr.block pl (by simp; omega) (fun e => absurd (ownsRow_block hown5 e.symm) (by omega))).trans (hb5.alloc _)
        have y5' : w6.cell? ⟨y.id, 5, none⟩ = some (.pointer (some ⟨nb, no, none⟩)) := by
          rw [HL.out] at hw6
          have := hw6.seg.at_.cell 5
          simp [nodeCells] at this
          rw [HNH.out] at this
          exact this
        have hpk1 : (pick n lf (y :: ys)).1 = y :: (pick n (lf + costOf y) ys).1 := by rw [HPK.out]
        have hpk2 : (pick n lf (y :: ys)).2 = (pick n (lf + costOf y) ys).2 := by rw [HPK.out]
        have hfinD : (D ++ [y]) ++ (pick n (lf + costOf y) ys).1 = (pick n l L).1 := by rw [← HD.out, hpk1]; simp
        have hfinL : (pick n (lf + costOf y) ys).2 = (pick n l L).2 := by rw [← HLF.out, hpk2]
        have hfinB : (lf + costOf y) + total ys ≤ 9000000000000000000 := by have := HT.out; omega
        have hfinA : L = (A ++ [y]) ++ ys := by rw [HL.out]; simp
        have hfinO : HoldsNodes w6 w.heap.size v6 (D ++ [y]) := by
          unfold HoldsNodes
          rw [List.map_append, List.length_append]
          exact hown6
        have F1 := Lib.hid hfinD
        have F2 := Lib.hid hfinL
        have F3 := Lib.hid hfinA
        clear hpk1 hpk2 hfinD hfinL hfinA hgr hown6 hown5 hy5 hb5 hw6 hc5 hc05 hs5 hs0
        go_wp2_with fail
        go_roundg ys.length
        case measure => omega
        case rel => exact ⟨A ++ [y], ys, D ++ [y], lf + costOf y, F3.out, rfl, by rw [HNH.out], hfinO, hb6, hc6, F1.out, F2.out, by omega, hfinB, by simp; omega⟩
      · have hpk : pick n lf (y :: ys) = pick n lf ys := by simp only [pick]; rw [if_neg hsel]
        have HPK := Lib.hid hpk
        have hno := shrinkF_no y.id pl pn lf n y.pins (by omega) wr y3 hpl0 hpn0
        have F1 : Hid (D ++ (pick n lf ys).1 = (pick n l L).1) := by show _ = _; rw [← hpk]; exact hD
        have F2 : Hid ((pick n lf ys).2 = (pick n l L).2) := by show _ = _; rw [← hpk]; exact hlf
        have F3 : Hid (L = (A ++ [y]) ++ ys) := by show _ = _; rw [hL]; simp
        clear hL hown hbl hc hD hlf hw hj hnh hcy hpk hyb y2 y3 hsel hpl0 hpn0 hfl0
        go_wp2_with fail
        refine hno.mono ?_
        rintro e w5 ⟨rfl, rfl⟩
        clear hno hcmp
        go_wp2_with fail
        have hfinB : lf + total ys ≤ 9000000000000000000 := by have := HT.out; omega
        clear htot
        go_roundg ys.length
        case measure => omega
        case rel => exact ⟨A ++ [y], ys, D, lf, F3.out, rfl, by rw [HNH.out], HOWN.out, HBL.out, HC.out, F1.out, F2.out, by omega, hfinB, by omega⟩
end Go.Proofs.YtljabmkmngbhkaaGreatDoor
