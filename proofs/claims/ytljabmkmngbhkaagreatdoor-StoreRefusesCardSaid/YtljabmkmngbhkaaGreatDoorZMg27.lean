/-
  The program's version: Files; a level's order (sort).
  The program's manifest: the library's Contains, the disk's List, what is needed.
  A store in memory, without tables: how it lies. Plain lemmas; no condition.
-/
import Derived.Test.YtljabmkmngbhkaaGreatDoorZMg26
import Derived.Test.YtljabmkmngbhkaaGreatDoorZMg13
import Derived.Test.YtljabmkmngbhkaaGreatDoorZMg18
import Derived.Test.YtljabmkmngbhkaaGreatDoorZSkpF
import Derived.Test.YtljabmkmngbhkaaGreatDoorZMg21
import Derived.Test.YtljabmkmngbhkaaGreatDoorZMg12
import Derived.Test.YtljabmkmngbhkaaGreatDoorZMg25
namespace Go.Proofs.YtljabmkmngbhkaaGreatDoor
open Go.RowKit
set_option linter.unusedVariables false
set_option linter.unusedSimpArgs false

/-- The four levels of a version, each a slice of its own. -/
def VerAt (w : World) (L : Nat → Value) (f : Nat → List MetaV) : Prop := ∀ i, i < 4 → Lst metaC w (L i) (f i)
theorem VerAt.same {w w' : World} {L : Nat → Value} {f : Nat → List MetaV} (h : VerAt w L f) (hc : Chg (fun _ => False) w w') : VerAt w' L f := fun i hi => (h i hi).same hc
def upTo (f : Nat → List MetaV) (k : Nat) : List Int := (List.range k).flatMap fun i => (f i).map (·.file)
theorem upTo_succ (f : Nat → List MetaV) (k : Nat) : upTo f (k + 1) = upTo f k ++ (f k).map (·.file) := by simp [upTo, List.range_succ]
theorem upTo_all (f : Nat → List MetaV) : upTo f 4 = filesOf (flatF f) := by
  simp [upTo, filesOf, flatF, atLevel, List.range_succ, Function.comp_def]
theorem upTo_len (f : Nat → List MetaV) (n k : Nat) (hn : ∀ i, i < k → (f i).length ≤ n) : (upTo f k).length ≤ k * n := by
  induction k with
  | zero => simp [upTo]
  | succ k ih =>
    rw [upTo_succ, List.length_append, List.length_map, Nat.add_mul, Nat.one_mul]
    have := ih fun i hi => hn i (by omega)
    have := hn k (by omega)
    omega
theorem run_index4 (L : Nat → Value) {k : Nat} (hk : k < 4) (w : World) : (Instr.index 60 (.agg #[L 0, L 1, L 2, L 3]) (.int .i64 (k : Int))).run Tryz.prog w = .ok (L k) w := by
  match k, hk with
  | 0, _ => exact (show (Instr.index 60 (.agg #[L 0, L 1, L 2, L 3]) (.int .i64 0)).run Tryz.prog w = .ok (L 0) w by kernel_rfl)
  | 1, _ => exact (show (Instr.index 60 (.agg #[L 0, L 1, L 2, L 3]) (.int .i64 1)).run Tryz.prog w = .ok (L 1) w by kernel_rfl)
  | 2, _ => exact (show (Instr.index 60 (.agg #[L 0, L 1, L 2, L 3]) (.int .i64 2)).run Tryz.prog w = .ok (L 2) w by kernel_rfl)
  | 3, _ => exact (show (Instr.index 60 (.agg #[L 0, L 1, L 2, L 3]) (.int .i64 3)).run Tryz.prog w = .ok (L 3) w by kernel_rfl)

/-- All files, rising. -/
def FilesPost (w : World) (f : Nat → List MetaV) (e : Ending) (w' : World) : Prop :=
  ∃ v, e = .returned v ∧ Lst i64C w' v ((filesOf (flatF f)).mergeSort fun x y => decide (x ≤ y)) ∧ (∀ k, v.ownBlock = some k → w.heap.size ≤ k) ∧ Chg (fun _ => False) w w'

set_option maxRecDepth 100000 in
set_option maxHeartbeats 4000000 in
theorem ver_files (L : Nat → Value) (f : Nat → List MetaV) (log next seq : Int) (w : World) (h : VerAt w L f) (hn : ∀ i, i < 4 → (f i).length ≤ 100000000) :
    Calls Tryz.prog 23 #[.agg #[L 0, L 1, L 2, L 3, .int .i64 log, .int .i64 next, .int .i64 seq]] w (FilesPost w f) := by
  obtain ⟨w1, hw1⟩ : ∃ w1, w1 = w.alloc (.cells #[L 0, L 1, L 2, L 3, .int .i64 log, .int .i64 next, .int .i64 seq] 62) := ⟨_, rfl⟩
  have hc1 : Chg (fun _ => False) w w1 := by rw [hw1]; exact cgS
  have hb1 : Blk w1 w.heap.size 62 #[L 0, L 1, L 2, L 3, .int .i64 log, .int .i64 next, .int .i64 seq] := by rw [hw1]; exact Blk.new w _ _
  have y0 := hb1.cell 0
  have y1 := hb1.cell 1
  have y2 := hb1.cell 2
  have y3 := hb1.cell 3
  simp at y0 y1 y2 y3
  have HW1 := Lib.hid hw1
  have HC1 := Lib.hid hc1
  have H := Lib.hid h
  have HN := Lib.hid hn
  have HIX := Lib.hid (fun (k : Nat) (hk : k < 4) (w : World) => run_index4 L hk w)
  clear hw1 hc1 hb1 h hn
  go_enter Tryz.func23, Tryz.ntmps23
  go_wp2_with fail
  rw [← HW1.out]
  go_wp2_with fail
  go_loopw [3, 10] (fun out i wr => ∃ k : Nat, k ≤ 4 ∧ i = .int .i64 k ∧ Lst i64C wr out (upTo f k) ∧ (∀ b, out.ownBlock = some b → w1.heap.size ≤ b) ∧ Chg (fun _ => False) w1 wr) (fun _ i _ => 4 - (intOf i).toNat)
  case atStart => exact ⟨0, by omega, rfl, Lst.nil _ _, by simp [Value.ownBlock], Chg.refl _ _⟩
  case round =>
    obtain ⟨k, hk4, rfl, hO, hk, hc⟩ := hrel
    have hlen := upTo_len f 100000000 k (fun i hi => HN.out i (by omega))
    by_cases hlt : k < 4
    · obtain ⟨F, hF⟩ : ∃ F, upTo f k = F := ⟨_, rfl⟩
      rw [hF] at hO hlen
      obtain ⟨oa, oc, rfl, hoc, hon, _⟩ := i64_form hO
      have hix := HIX.out k hlt
      obtain ⟨la, lc, hL, hlc, hln, hread⟩ := meta_form (H.out k hlt)
      rw [hL] at hix
      have hnk := HN.out k hlt
      have hlt' : (k : Int) < 4 := by omega
      have HR := Lib.hid hread
      have HL := Lib.hid hL
      have HO := Lib.hid hO
      have HK := Lib.hid hk
      have HC := Lib.hid hc
      obtain ⟨wo, hwo⟩ : ∃ wo : World, wo = wr := ⟨_, rfl⟩
      subst hwo
      have HF := Lib.hid hF
      clear hread hL hO hk hc hF
      go_wp2_with fail
      go_loopw [3, 15] (fun out i wr => ∃ A R, f k = A ++ R ∧ i = .int .i64 A.length ∧ Lst i64C wr out (F ++ A.map (·.file)) ∧ (∀ b, out.ownBlock = some b → w1.heap.size ≤ b) ∧ Chg (fun _ => False) w1 wr) (fun _ i _ => (f k).length - (intOf i).toNat)
      case atStart => exact ⟨[], f k, rfl, rfl, by simpa using HO.out, HK.out, HC.out⟩
      case round =>
        obtain ⟨A, R, hfk, rfl, hO2, hk2, hc2⟩ := hrel
        have hAl : A.length ≤ (f k).length := by rw [hfk]; simp
        obtain ⟨G, hG⟩ : ∃ G, F ++ A.map (·.file) = G := ⟨_, rfl⟩
        have hGl : G.length ≤ 500000000 := by rw [← hG, List.length_append, List.length_map]; omega
        rw [hG] at hO2
        obtain ⟨pa, pc, rfl, hpc, hpn, _⟩ := i64_form hO2
        have HO2 := Lib.hid hO2
        have HK2 := Lib.hid hk2
        have HC2 := Lib.hid hc2
        have HG := Lib.hid hG
        have hcs := hc2.size
        cases R with
        | nil =>
          have hge : ¬ ((A.length : Int) < ((f k).length : Int)) := by rw [hfk]; simp
          have hend : upTo f (k + 1) = G := by rw [upTo_succ, HF.out, ← hG, hfk]; simp
          have HE := Lib.hid hend
          clear hfk hO2 hk2 hc2 hG hend
          go_wp2_with fail
          go_roundw
          case rel => exact ⟨k + 1, by omega, by go_num, by rw [HE.out]; exact HO2.out, HK2.out, HC2.out⟩
          case measure => simp [intOf]; omega
        | cons x B =>
          obtain ⟨b, rfl, hb, _, z0, z1, z2, z3⟩ := HR.out A x B hfk
          have hc3 := HC1.out.then hc2
          have z0' := (hc3.cell (p := ⟨b, A.length * 4, none⟩) hb (by simp)).trans z0
          have z1' := (hc3.cell (p := ⟨b, A.length * 4 + 1, none⟩) hb (by simp)).trans z1
          have z2' := (hc3.cell (p := ⟨b, A.length * 4 + 2, none⟩) hb (by simp)).trans z2
          have z3' := (hc3.cell (p := ⟨b, A.length * 4 + 3, none⟩) hb (by simp)).trans z3
          have hlt2 : (A.length : Int) < ((f k).length : Int) := by rw [hfk]; simp; omega
          have hge : (0 : Int) ≤ (A.length : Int) := by omega
          have hf2 : f k = (A ++ [x]) ++ B := by rw [hfk]; simp
          have HF2 := Lib.hid hf2
          clear hfk hO2 hk2 hc2 hG hf2 hc3 z0 z1 z2 z3
          go_wp2_with (at_builtin; refine wpList_lst_app i64Ok _ (by rfl) _ _ (by rfl) G _ x.file (by rfl) (HO2.out.same cgS) _ (by rfl) (by omega) (Blk.new1 _ _ _ _) ?_)
          intro v' w' hO' hcg hb'
          have hk' : ∀ b, v'.ownBlock = some b → w1.heap.size ≤ b := fun k' hk' => by
            rcases hb' k' hk' with e | e
            · exact HK2.out k' e
            · first | omega | (simp at e; omega)
          have hc' : Chg (fun _ => False) w1 w' := Chg.trans (by have := HC2.out; exact cgS) hcg (fun k hk e => by have := HK2.out k e; omega)
          have HO' := Lib.hid hO'
          have HK' := Lib.hid hk'
          have HC' := Lib.hid hc'
          clear hO' hcg hb' hk' hc'
          go_wp2_with fail
          go_roundw
          case rel => exact ⟨A ++ [x], B, HF2.out, by simp, by have := HO'.out; rw [← HG.out] at this; simpa using this, HK'.out, HC'.out⟩
          case measure => simp [intOf]; omega
    · obtain rfl : k = 4 := by omega
      obtain ⟨F, hF⟩ : ∃ F, upTo f 4 = F := ⟨_, rfl⟩
      rw [hF] at hO hlen
      obtain ⟨oa, oc, rfl, hoc, hon, _⟩ := i64_form hO
      have hs := sort_ints _ F (by omega) wr hO
      have hF2 : F = filesOf (flatF f) := by rw [← hF, upTo_all]
      have HF2 := Lib.hid hF2
      have HK := Lib.hid hk
      have HC := Lib.hid hc
      have HC1' := Lib.hid (HC1.out.then HC.out)
      have hcs := HC1.out.size
      have HS := Lib.hid hs
      clear hO hF hF2 hk hc hs
      go_wp2_with fail
      refine HS.out.mono ?_
      rintro e w' ⟨rfl, hO', hc'⟩
      have hfin : Chg (fun _ => False) w w' := HC1'.out.trans hc' (fun k hk e => by have := HK.out k e; omega)
      have HO' := Lib.hid hO'
      have HF := Lib.hid hfin
      clear hO' hfin hc'
      go_wp2_with fail
      go_ret
      refine ⟨_, rfl, by rw [← HF2.out]; exact HO'.out, fun k hk => by have := HK.out k hk; omega, HF.out⟩
end Go.Proofs.YtljabmkmngbhkaaGreatDoor
namespace Go.Proofs.YtljabmkmngbhkaaGreatDoor
open Go.RowKit
set_option linter.unusedVariables false
set_option linter.unusedSimpArgs false

theorem split_at {α : Type} {l : List α} {k : Nat} (h : k < l.length) : ∃ x, l[k]? = some x ∧ l = l.take k ++ x :: l.drop (k + 1) ∧ (l.take k).length = k ∧ l.take (k + 1) = l.take k ++ [x] ∧ l.drop k = x :: l.drop (k + 1) := by
  refine ⟨l[k], List.getElem?_eq_getElem h, ?_, by simp; omega, ?_, List.drop_eq_getElem_cons h⟩
  · rw [List.getElem_cons_drop, List.take_append_drop]
  · rw [List.take_succ_eq_append_getElem h]
set_option maxRecDepth 100000 in
set_option maxHeartbeats 2000000 in
theorem idx_i64 (l : List Int) (v : Value) (x : Int) (w : World) (h : Lst i64C w v l) (hl : l.length ≤ 1000000000) : Calls Tryz.prog 58 #[v, .int .i64 x] w fun e w' => ∃ k : Int, e = .returned (.int .i64 k) ∧ (0 ≤ k ↔ x ∈ l) ∧ w = w' := by
  obtain ⟨a, cap, rfl, hlc, _, hr⟩ := h.form i64Ok
  have HR := Lib.hid hr
  clear hr h
  go_enter Tryz.func58, Tryz.ntmps58
  go_wp2_with fail
  go_loopw [8] (fun i wr => wr = w ∧ ∃ k : Nat, i = .int .i64 (k : Int) ∧ k ≤ l.length ∧ x ∉ l.take k) (fun i _ => l.length - (intOf i).toNat)
  case atStart => exact ⟨rfl, 0, rfl, Nat.zero_le _, by simp⟩
  case round =>
    obtain ⟨rfl, k, rfl, hk, hno⟩ := hrel
    by_cases hlt : k < l.length
    · obtain ⟨y, hy, hA, hB, hC, _⟩ := split_at hlt
      obtain ⟨b, rfl, hb, _, hcell⟩ := HR.out _ _ _ hA
      have x0 := hcell 0 _ rfl
      rw [hB] at x0
      simp only [i64C, Nat.mul_one, Nat.add_zero] at x0
      have hq : decide ((k : Int) < (l.length : Int)) = true := by simp; omega
      have hmem : y ∈ l := List.mem_of_getElem? hy
      have HC := Lib.hid hC
      clear hcell hA hB hC hy
      by_cases he : x = y
      · subst he
        have hq2 : (x == x) = true := by simp
        go_wp2_with fail
        go_ret
        exact ⟨(k : Int), rfl, ⟨fun _ => hmem, fun _ => by omega⟩, rfl⟩
      · have hq2 : (x == y) = false := by simp [he]
        have hi := IntWalk.i64_in ((k : Int) + 1) (by omega)
        go_wp2_with fail
        refine ⟨⟨trivial, k + 1, by simp [hi], by omega, by rw [HC.out]; simp [hno, he]⟩, by simp [intOf, hi]; omega⟩
    · have hke : k = l.length := by omega
      subst hke
      rw [List.take_length] at hno
      have hq : decide ((l.length : Int) < (l.length : Int)) = false := by simp
      go_wp2_with fail
      go_ret
      exact ⟨-1, rfl, ⟨fun h => by omega, fun h => absurd h hno⟩, rfl⟩
set_option maxRecDepth 100000 in
set_option maxHeartbeats 2000000 in
theorem has_i64 (l : List Int) (v : Value) (x : Int) (w : World) (h : Lst i64C w v l) (hl : l.length ≤ 1000000000) : Calls Tryz.prog 122 #[v, .int .i64 x] w fun e w' => e = .returned (.bool (decide (x ∈ l))) ∧ w = w' := by
  have hi := idx_i64 l v x w h hl
  have HI := Lib.hid hi
  clear hi h
  go_enter Tryz.func122, Tryz.ntmps122
  go_wp2_with fail
  refine HI.out.mono ?_
  rintro e w1 ⟨k, rfl, hk, rfl⟩
  have HK := Lib.hid hk
  clear hk
  go_wp2_with fail
  go_ret
  refine ⟨?_, rfl⟩
  have := HK.out
  congr 2
  by_cases h0 : 0 ≤ k
  · simp [h0, this.1 h0]
  · have : x ∉ l := fun e => h0 (this.2 e)
    simp [h0, this]
set_option maxRecDepth 100000 in
set_option maxHeartbeats 2000000 in
theorem idx_str (l : List ByteArray) (v : Value) (x : ByteArray) (w : World) (h : Lst strC w v l) (hl : l.length ≤ 1000000000) : Calls Tryz.prog 141 #[v, .string x] w fun e w' => ∃ k : Int, e = .returned (.int .i64 k) ∧ (0 ≤ k ↔ x ∈ l) ∧ w = w' := by
  obtain ⟨a, cap, rfl, hlc, _, hr⟩ := h.form strOk
  have HR := Lib.hid hr
  clear hr h
  go_enter Tryz.func141, Tryz.ntmps141
  go_wp2_with fail
  go_loopw [8] (fun i wr => wr = w ∧ ∃ k : Nat, i = .int .i64 (k : Int) ∧ k ≤ l.length ∧ x ∉ l.take k) (fun i _ => l.length - (intOf i).toNat)
  case atStart => exact ⟨rfl, 0, rfl, Nat.zero_le _, by simp⟩
  case round =>
    obtain ⟨rfl, k, rfl, hk, hno⟩ := hrel
    by_cases hlt : k < l.length
    · obtain ⟨y, hy, hA, hB, hC, _⟩ := split_at hlt
      obtain ⟨b, rfl, hb, _, hcell⟩ := HR.out _ _ _ hA
      have x0 := hcell 0 _ rfl
      rw [hB] at x0
      simp only [strC, Nat.mul_one, Nat.add_zero] at x0
      have hq : decide ((k : Int) < (l.length : Int)) = true := by simp; omega
      have hmem : y ∈ l := List.mem_of_getElem? hy
      have HC := Lib.hid hC
      clear hcell hA hB hC hy
      by_cases he : x = y
      · subst he
        have hq2 : (x.toList == x.toList) = true := by simp
        go_wp2_with fail
        go_ret
        exact ⟨(k : Int), rfl, ⟨fun _ => hmem, fun _ => by omega⟩, rfl⟩
      · have hq2 : (x.toList == y.toList) = false := by rw [ba_test]; simp [he]
        have hi := IntWalk.i64_in ((k : Int) + 1) (by omega)
        go_wp2_with fail
        refine ⟨⟨trivial, k + 1, by simp [hi], by omega, by rw [HC.out]; simp [hno, he]⟩, by simp [intOf, hi]; omega⟩
    · have hke : k = l.length := by omega
      subst hke
      rw [List.take_length] at hno
      have hq : decide ((l.length : Int) < (l.length : Int)) = false := by simp
      go_wp2_with fail
      go_ret
      exact ⟨-1, rfl, ⟨fun h => by omega, fun h => absurd h hno⟩, rfl⟩
def hasTx (l : List ByteArray) (x : ByteArray) : Bool := l.any fun y => decide (y = x)
theorem hasTx_iff {l : List ByteArray} {x : ByteArray} : hasTx l x = true ↔ x ∈ l := by simp [hasTx]
set_option maxRecDepth 100000 in
set_option maxHeartbeats 2000000 in
theorem has_str (l : List ByteArray) (v : Value) (x : ByteArray) (w : World) (h : Lst strC w v l) (hl : l.length ≤ 1000000000) : Calls Tryz.prog 64 #[v, .string x] w fun e w' => e = .returned (.bool (hasTx l x)) ∧ w = w' := by
  have hi := idx_str l v x w h hl
  have HI := Lib.hid hi
  clear hi h
  go_enter Tryz.func64, Tryz.ntmps64
  go_wp2_with fail
  refine HI.out.mono ?_
  rintro e w1 ⟨k, rfl, hk, rfl⟩
  have HK := Lib.hid hk
  clear hk
  go_wp2_with fail
  go_ret
  refine ⟨?_, rfl⟩
  have := HK.out
  congr 2
  by_cases h0 : 0 ≤ k
  · rw [hasTx_iff.2 (this.1 h0)]
    simp [h0]
  · have h1 : hasTx l x = false := by
      rw [Bool.eq_false_iff]
      exact fun e => h0 (this.2 (hasTx_iff.1 e))
    rw [h1]
    simp [h0]
def namesL (D : DiskV) : List ByteArray := D.names.map (·.1)
theorem listD_pasc {D : DiskV} (h : PAsc D.names) : listD D = D.names.map fun p => p.1.data.toList := by
  unfold listD
  refine List.mergeSort_of_pairwise ?_
  rw [List.pairwise_map]
  refine h.imp fun {a b} hab => ?_
  have := p_slt_iff.1 hab
  simp only [leB]
  simp
  exact List.le_of_lt this
theorem y_list (w0 : World) (d : Nat) (D : DiskV) (Y : Nat → Prop) (hn : D.names.length ≤ 1000000) (ha : PAsc D.names) (w : World) (h : DY w0 w d D Y) :
    Calls Tryz.prog 65 #[.pointer (some ⟨d, 0, none⟩)] w fun e w' => ∃ v, e = .returned v ∧ Lst strC w' v (namesL D) ∧ (∀ k, v.ownBlock = some k → w.heap.size ≤ k) ∧ Chg (fun _ => False) w w' := by
  obtain ⟨ids, M, hd, _, _, _⟩ := h
  refine (disk_list d ids D M hn w hd).mono fun e w' ⟨v, he, hrow, hc⟩ => ⟨v, he, ?_, ?_, hc⟩
  · have ho := Own.of_row hrow
    rw [listD_pasc ha] at ho
    have e1 : ((D.names.map fun p => p.1.data.toList).map encStr) = (namesL D).flatMap strC.g := by
      rw [List.map_map, namesL, List.flatMap_map]
      induction D.names with
      | nil => rfl
      | cons p r ih => rw [List.map_cons, List.flatMap_cons, ih]; rfl
    rw [e1] at ho
    have e2 : (D.names.map fun p => p.1.data.toList).length = (namesL D).length := by simp [namesL]
    rw [e2] at ho
    exact ho
  · rintro k hk
    rcases hrow.2 with ⟨rfl, _⟩ | ⟨g, cap, cur, rfl, h2, _⟩
    · simp [Value.ownBlock] at hk
    · simp [Value.ownBlock] at hk
      omega
/-- Is the file one that a version needs, or none of ours? -/
def needM (nm : ByteArray) (n log : Int) (files : List Int) : Bool :=
  if (numL kindB.data.toList nm.data.toList).2 then (numL kindB.data.toList nm.data.toList).1 == n
  else if (numL logK.data.toList nm.data.toList).2 then (numL logK.data.toList nm.data.toList).1 == log
  else if (numL tableK.data.toList nm.data.toList).2 then decide ((numL tableK.data.toList nm.data.toList).1 ∈ files)
  else !(nm.toList == nextB.toList)
end Go.Proofs.YtljabmkmngbhkaaGreatDoor
namespace Go.Proofs.YtljabmkmngbhkaaGreatDoor
open Go.RowKit
set_option linter.unusedVariables false
set_option linter.unusedSimpArgs false

structure CfgV where
  limit : Int
  memory : Int
  block : Int
  bits : Int
  file : Int
  zero : Int
  base : Int
  ratio : Int
/-- What a store has: its disk, its budget, the entries in memory and how many bytes they hold, the numbers of its version, of its manifest. -/
structure StV where
  D : DiskV
  B : Bud
  L : List EntryV
  size : Int
  log : Int
  next : Int
  vseq : Int
  man : Int
  told : Int
  snaps : List Int
  now : Int
  seq : Int
  dead : Bool
  closed : Bool
  done : Int
  lock : Int := 0
def stCells (d b c l : Nat) (sv : Value) (F : CfgV) (S : StV) : Array Value :=
  #[.pointer (some ⟨d, 0, none⟩), .int .i64 F.limit, .int .i64 F.memory, .int .i64 F.block, .int .i64 F.bits, .int .i64 F.file, .int .i64 F.zero, .int .i64 F.base, .int .i64 F.ratio, .slice none 0 0,
    .pointer (some ⟨b, 0, none⟩), .pointer (some ⟨c, 0, none⟩), .pointer (some ⟨l, 0, none⟩), .slice none 0 0, .slice none 0 0, .slice none 0 0, .slice none 0 0, .int .i64 S.log, .int .i64 S.next, .int .i64 S.vseq,
    .int .i64 S.man, .int .i64 S.told, .string ⟨#[]⟩, .string ⟨#[]⟩, .string ⟨#[]⟩, .string ⟨#[]⟩, sv, .int .i64 S.now, .int .i64 S.seq, .bool S.dead, .bool S.closed, .int .u32 S.done, .int .i32 S.lock, .int .u32 0]
structure StP where
  s : Nat
  d : Nat
  b : Nat
  c : Nat
  m : Nat
  l : Nat
  hb : Nat
  sv : Value
  N : List NodeV
/-- The blocks of a store, but for the disk's. -/
def StFoot (p : StP) (k : Nat) : Prop := k = p.s ∨ FootC p.c p.b p.m [] k ∨ SkFoot p.l p.hb p.N k ∨ p.sv.ownBlock = some k
structure StAt (w0 w : World) (p : StP) (Y : Nat → Prop) (F : CfgV) (S : StV) : Prop where
  blk : Blk w p.s 86 (stCells p.d p.b p.c p.l p.sv F S)
  disk : DY w0 w p.d S.D Y
  cache : CacheAt w p.c p.b p.m [] S.B
  skip : SkipAt w p.l p.hb (.slice none 0 0) [] p.N S.size
  ent : p.N.map (·.e) = S.L
  snaps : Lst i64C w p.sv S.snaps
  foot : ∀ k, StFoot p k → Y k ∧ w0.heap.size ≤ k
  low : ∀ e ∈ S.L, e.seq ≤ S.seq
  sq : 0 ≤ S.seq ∧ S.seq ≤ 1000000000000
  nw : -9223372036854775808 ≤ S.now ∧ S.now ≤ 9223372036854775807
section
variable {w0 w w' : World} {d : Nat} {D : DiskV} {Y S : Nat → Prop}
/-- Watched blocks, and new ones, are written by others than the disk. -/
theorem DY.other (h : DY w0 w d D Y) (hc : Chg S w w') (hS : ∀ k, k < w.heap.size → S k → Y k ∧ w0.heap.size ≤ k) : DY w0 w' d D (fun k => Y k ∨ (w.heap.size ≤ k ∧ k < w'.heap.size)) := by
  obtain ⟨ids, M, ha, hM, hY, hc0⟩ := h
  have hlt := ha.lt
  have hsz := hc.size
  have hs0 := hc0.size
  refine ⟨ids, M, ha.chg hc fun k hk hs => ?_, hM, fun k hk => ?_, hc0.trans hc fun k hk e => ?_⟩
  · exact (hY k (hS k (hlt k hk) hs).1).2 hk
  · rcases hk with hk | hk
    · exact ⟨Nat.lt_of_lt_of_le (hY k hk).1 hsz, (hY k hk).2⟩
    · exact ⟨hk.2, fun e => by have := hlt k e; omega⟩
  · have := (hS k (by omega) e).2
    omega
end
/-! ### Entries in order, as a list -/
def putL (L : List EntryV) (e : EntryV) : List EntryV := (L.takeWhile fun m => lessE m e) ++ e :: L.dropWhile fun m => lessE m e
def putLs (L : List EntryV) (es : List EntryV) : List EntryV := es.foldl putL L
def getL (L : List EntryV) (k : ByteArray) (seq : Int) : EntryV × Bool := match (L.dropWhile fun m => lessE m (keyE k seq)).head? with
  | none => (zeroE, false)
  | some e => if e.key = k then (e, true) else (zeroE, false)
def sumC (l : List EntryV) : Int := (l.map (costE 1)).sum
theorem putN_map (N : List NodeV) (x : NodeV) : (putN N x).map (·.e) = putL (N.map (·.e)) x.e := by
  unfold putN putL aheadN behindN
  rw [List.map_append, List.map_cons, List.takeWhile_map, List.dropWhile_map]
  rfl
theorem getE_map (N : List NodeV) (k : ByteArray) (seq : Int) : getE N k seq = getL (N.map (·.e)) k seq := by
  unfold getE getN getL behindN
  rw [List.dropWhile_map, List.head?_map]
  have hf : ((fun m => lessE m (keyE k seq)) ∘ fun x : NodeV => x.e) = fun m : NodeV => lessE m.e (keyE k seq) := rfl
  rw [hf]
  cases (N.dropWhile fun m => lessE m.e (keyE k seq)).head? with
  | none => rfl
  | some n =>
    simp only [Option.map_some]
    by_cases e : n.e.key = k
    · rw [if_pos e, if_pos e]
    · rw [if_neg e, if_neg e]
theorem putL_mem {L : List EntryV} {e m : EntryV} (h : m ∈ putL L e) : m = e ∨ m ∈ L := by
  unfold putL at h
  rcases List.mem_append.1 h with h | h
  · exact .inr ((List.takeWhile_sublist _).subset h)
  · rcases List.mem_cons.1 h with h | h
    · exact .inl h
    · exact .inr ((List.dropWhile_sublist _).subset h)
theorem putLs_snoc (L A : List EntryV) (e : EntryV) : putLs L (A ++ [e]) = putL (putLs L A) e := by simp [putLs]
theorem sumC_snoc (A : List EntryV) (e : EntryV) : sumC (A ++ [e]) = sumC A + costE 1 e := by simp [sumC]
theorem goodK_seq {e : EntryV} (h : goodI e = 0) {q : Int} (hq : 1 ≤ q) : goodK { e with seq := q } = 0 := by
  obtain ⟨k, s, g, v, t⟩ := e
  unfold goodI at h
  by_cases h0 : goodK ⟨k, 1, g, v, t⟩ = 0
  · unfold goodK at h0 ⊢
    simp only at h0 ⊢
    by_cases h1 : k.size > 64 ∨ v.size > 512
    · rw [if_pos h1] at h0; omega
    · rw [if_neg h1] at h0 ⊢
      by_cases h2 : k.size = 0 ∨ (1 : Int) < 1 ∨ t < 0 ∨ g = true ∧ (v.size ≠ 0 ∨ t ≠ 0)
      · rw [if_pos h2] at h0; omega
      · rw [if_neg]
        rintro (h | h | h | h)
        · exact h2 (.inl h)
        · omega
        · exact h2 (.inr (.inr (.inl h)))
        · exact h2 (.inr (.inr (.inr h)))
  · simp only at h
    rw [if_pos h0] at h
    exact absurd h h0
theorem SkipAt.foot_typed {w : World} {l hb : Nat} {cv : Value} {coins : List Int} {N : List NodeV} {size : Int} (h : SkipAt w l hb cv coins N size) {k : Nat} (hk : SkFoot l hb N k) : ∃ t cs, Blk w k t cs ∧ (t = 148 ∨ t = 194 ∨ t = 146) := by
  rcases hk with rfl | rfl | ⟨n, hn, hk⟩
  · exact ⟨_, _, h.blk, .inl rfl⟩
  · obtain ⟨cs, h1, _⟩ := h.head
    exact ⟨_, _, h1, .inr (.inl rfl)⟩
  · obtain ⟨A, R, e⟩ := List.append_of_mem hn
    obtain ⟨h1, cs, h2, _⟩ := h.nodes A n R e
    rcases hk with rfl | rfl
    · exact ⟨_, _, h1, .inr (.inr rfl)⟩
    · exact ⟨_, _, h2, .inr (.inl rfl)⟩
theorem SkipAt.off {w : World} {l hb : Nat} {cv : Value} {coins : List Int} {N : List NodeV} {size : Int} (h : SkipAt w l hb cv coins N size) {k : Nat} {t : TypeId} {cs : Array Value} (hb' : Blk w k t cs) (ht : t ≠ 148 ∧ t ≠ 194 ∧ t ≠ 146) : ¬ SkFoot l hb N k := fun hk => by
  obtain ⟨t', cs', h1, h2⟩ := h.foot_typed hk
  refine hb'.ne_ h1 ?_ rfl
  rcases h2 with rfl | rfl | rfl
  · exact ht.1
  · exact ht.2.1
  · exact ht.2.2
/-- A budget that holds something else for another kind. -/
theorem cache_change {w w' : World} {c g m : Nat} {B B' : Bud} (h : CacheAt w c g m [] B) (hb : BudAt w' g B') (hc : Chg (fun k => k = g) w w') (e : B'.b = B.b) : CacheAt w' c g m [] B' := by
  obtain ⟨n, f, hm, ht⟩ := h.map
  exact ⟨h.ring.chg hc (h.ring.blk.ne_ h.bud.blk (by decide)) (by simp), ⟨n, f, hm.chg hc (fun e => h.bud.blk.ne_map hm e.symm), ht⟩, hb, h.keys, h.good, by rw [e]; exact h.tot⟩
theorem change_b (B : Bud) (n : Int) : (B.change 0 n).2.b = B.b := by
  unfold Bud.change
  split
  · rfl
  · split
    · rfl
    · simp [Bud.put]
theorem reserve_b (B : Bud) (n : Int) : (B.reserve 0 n).2.b = B.b := by
  unfold Bud.reserve
  split
  · rfl
  · split
    · rfl
    · simp [Bud.put]
end Go.Proofs.YtljabmkmngbhkaaGreatDoor
