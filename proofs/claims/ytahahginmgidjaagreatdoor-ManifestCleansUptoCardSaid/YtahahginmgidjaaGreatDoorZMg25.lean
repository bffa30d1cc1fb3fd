/-
  The program's manifest: framed.
  The program's version: each level put in its order; may they be?
  Words for the program's Apply: maps that count files; a version under way whose levels grow.
  Lemmas for the walks of the program's Apply.
-/
import Derived.Test.YtahahginmgidjaaGreatDoorZMg15
import Derived.Test.YtahahginmgidjaaGreatDoorZVarI
import Derived.Test.YtahahginmgidjaaGreatDoorZMg14
import Derived.Test.YtahahginmgidjaaGreatDoorZMg01
import Derived.Deep.DeepCutAuto
import Derived.Deep.CutBlock
import Derived.Deep.RegionLaw
namespace Go.Proofs.YtahahginmgidjaaGreatDoor
open Go.RowKit
set_option linter.unusedVariables false
set_option linter.unusedSimpArgs false

/-- An edit as it lies in a list of edits. -/
structure EdX where
  E : EditV
  aa : Option Addr
  an : Nat
  ac : Nat
  da : Option Addr
  dn : Nat
  dc : Nat
def EdX.add (x : EdX) : Value := .slice x.aa x.an x.ac
def EdX.drop (x : EdX) : Value := .slice x.da x.dn x.dc
def edC : Codec EdX := ⟨fun x => [.slice x.aa x.an x.ac, .slice x.da x.dn x.dc, .int .i64 x.E.log, .int .i64 x.E.next, .int .i64 x.E.seq], 5, 57, 107, .agg #[.slice none 0 0, .slice none 0 0, .int .i64 0, .int .i64 0, .int .i64 0], 72⟩
theorem edOk : edC.Ok := ⟨fun _ => rfl, by decide, fun x v hv => by simp [edC] at hv; rcases hv with rfl | rfl | rfl | rfl | rfl <;> rfl, Tryz.underlying107, by kernel_rfl, rfl, by decide⟩
def EdsIn (w : World) (l : List EdX) : Prop := ∀ x ∈ l, ReadRows w x.add x.E.add ∧ ReadInts w x.drop x.E.drop ∧ EdFit x.E
theorem EdsIn.same {w w' : World} {l : List EdX} (h : EdsIn w l) (hc : Chg (fun _ => False) w w') : EdsIn w' l := fun x hx => ⟨(h x hx).1.same hc, (h x hx).2.1.same hc, (h x hx).2.2⟩
def framesB (l : List EditV) : ByteArray := ⟨(l.flatMap fun E => fraB (putE E)).toArray⟩
def fitsB (l : List EditV) : Bool := l.all fun E => decide ((putE E).length ≤ 65535)
def framedV (n : Int) (l : List EditV) : ByteArray × ByteArray × Int :=
  if (fileB kindB n).toList.isEmpty then (⟨#[]⟩, ⟨#[]⟩, 2) else if fitsB l then (fileB kindB n, framesB l, 0) else (⟨#[]⟩, ⟨#[]⟩, 5)
theorem framesB_snoc (l : List EditV) (E : EditV) (t : ByteArray) (h : t.data.toList = fraB (putE E)) : framesB (l ++ [E]) = framesB l ++ t := by
  unfold framesB
  apply ByteArray.ext
  simp [h, ← Array.toList_inj]
theorem framesB_size (l : List EditV) (h : fitsB l = true) : (framesB l).size ≤ l.length * 65543 := by
  unfold framesB
  show (l.flatMap fun E => fraB (putE E)).toArray.size ≤ _
  rw [List.size_toArray]
  induction l with
  | nil => simp
  | cons E r ih =>
    simp only [fitsB, List.all_cons, Bool.and_eq_true, decide_eq_true_eq] at h
    rw [List.flatMap_cons, List.length_append, fraB_len, List.length_cons]
    have := ih h.2
    omega
theorem fitsB_snoc (l : List EditV) (E : EditV) : fitsB (l ++ [E]) = (fitsB l && decide ((putE E).length ≤ 65535)) := by simp [fitsB]
theorem putE_size {E : EditV} (h : EdFit E) : (putE E).length ≤ 140737488355328 := by
  have hln := h.drops
  have hla := h.adds
  obtain ⟨_, _⟩ := h.log
  obtain ⟨_, _⟩ := h.next
  obtain ⟨_, _⟩ := h.seq
  have hl1 := putA_len (l := [E.log, E.next, E.seq, (E.drop.length : Int)]) (by
    intro n hn
    simp only [List.mem_cons, List.not_mem_nil, or_false] at hn
    rcases hn with rfl | rfl | rfl | rfl <;> omega)
  have hl2 := putA_len h.drop
  have hl3 := putP_all h.add
  have hl4 := putV_len (n := (E.add.length : Int)) (by omega) (by omega)
  unfold putE
  simp only [List.length_append, List.length_cons, List.length_nil] at *
  omega
set_option maxRecDepth 100000 in
set_option maxHeartbeats 4000000 in
theorem ma_framed (n : Int) (h0 : -9223372036854775808 ≤ n) (h1 : n ≤ 9223372036854775807) (l : List EdX) (v : Value) (w : World) (ht : Tab w) (hv : Lst edC w v l) (hE : EdsIn w l) (hl : l.length ≤ 1000000) :
    Calls Tryz.prog 35 #[.int .i64 n, v] w fun e w' => e = .returned (.tuple #[.string (framedV n (l.map (·.E))).1, .string (framedV n (l.map (·.E))).2.1, .int .i64 (framedV n (l.map (·.E))).2.2]) ∧ Chg (fun _ => False) w w' := by
  obtain ⟨a, cap, rfl, hlc, _, hr⟩ := hv.form edOk
  have hfile := wal_file kindB n (by decide) h0 h1 w ht
  have HF := Lib.hid hfile
  have HR := Lib.hid hr
  have HE := Lib.hid hE
  clear hfile hr hE hv ht
  go_enter Tryz.func35, Tryz.ntmps35
  go_wp2_with fail
  refine HF.out.mono ?_
  rintro e w1 ⟨rfl, hc1⟩
  obtain ⟨nm, hnm⟩ : ∃ nm, fileB kindB n = nm := ⟨_, rfl⟩
  have hfv : framedV n (l.map (·.E)) = if nm.toList.isEmpty then (⟨#[]⟩, ⟨#[]⟩, 2) else if fitsB (l.map (·.E)) then (nm, framesB (l.map (·.E)), 0) else (⟨#[]⟩, ⟨#[]⟩, 5) := by rw [← hnm]; rfl
  have HFV := Lib.hid hfv
  have HC1 := Lib.hid hc1
  rw [hnm]
  clear hfv hnm hc1
  cases hem : nm.toList.isEmpty
  case true =>
    go_wp2_with fail
    refine bodyPost_ret (v := .tuple #[.string ⟨#[]⟩, .string ⟨#[]⟩, .int .i64 2]) (by simp [results, Tryz.results35, go_sem]) rfl ⟨?_, HC1.out⟩
    have := HFV.out
    rw [hem] at this
    rw [this]
    rfl
  case false =>
  go_wp2_with fail
  go_loopw [4, 5, 17] (fun nv s i wr => ∃ k : Nat, nv = .string nm ∧ s = .string (framesB ((l.take k).map (·.E))) ∧ i = .int .i64 (k : Int) ∧ k ≤ l.length ∧ fitsB ((l.take k).map (·.E)) = true ∧ Chg (fun _ => False) w1 wr) (fun _ _ i _ => l.length - (intOf i).toNat)
  case atStart => exact ⟨0, rfl, rfl, rfl, Nat.zero_le _, rfl, Chg.refl _ _⟩
  case round =>
    obtain ⟨k, rfl, rfl, rfl, hk, hfit, hc⟩ := hrel
    obtain ⟨F, hF⟩ : ∃ F, framesB ((l.take k).map (·.E)) = F := ⟨_, rfl⟩
    rw [hF]
    by_cases hlt : k < l.length
    · obtain ⟨x, hx, hA, hB, hC, _⟩ := split_at hlt
      obtain ⟨b, rfl, hb, _, hcell⟩ := HR.out _ _ _ hA
      have hcw := HC1.out.then hc
      have x0 := (hcw.cell (p := ⟨b, _, none⟩) hb (by simp)).trans (hcell 0 _ rfl)
      have x1 := (hcw.cell (p := ⟨b, _, none⟩) hb (by simp)).trans (hcell 1 _ rfl)
      have x2 := (hcw.cell (p := ⟨b, _, none⟩) hb (by simp)).trans (hcell 2 _ rfl)
      have x3 := (hcw.cell (p := ⟨b, _, none⟩) hb (by simp)).trans (hcell 3 _ rfl)
      have x4 := (hcw.cell (p := ⟨b, _, none⟩) hb (by simp)).trans (hcell 4 _ rfl)
      rw [hB] at x0 x1 x2 x3 x4
      simp only [edC, Nat.add_zero] at x0 x1 x2 x3 x4
      have hq : decide ((k : Int) < (l.length : Int)) = true := by simp; omega
      obtain ⟨hxa, hxd, hxf⟩ := HE.out x (List.mem_of_getElem? hx)
      have hput := fun W (hW : Chg (fun _ => False) wr W) => ve_put x.E x.add x.drop W hxf (hxa.same (hcw.then hW)) (hxd.same (hcw.then hW))
      have hsz := framesB_size _ hfit
      rw [hF] at hsz
      simp only [List.length_map, List.length_take] at hsz
      have HFF := Lib.hid hF
      have HP := Lib.hid hput
      have HPZ := Lib.hid (putE_size hxf)
      have HSZ := Lib.hid hsz
      have HFT := Lib.hid hfit
      have HCW := Lib.hid hc
      have HTK := Lib.hid hC
      have HX := Lib.hid hx
      have hlt2 := Nat.lt_of_lt_of_le hb hcw.size
      clear hput hsz hfit hc hC hx hF hcell hA hB hcw hxa hxd hxf
      obtain ⟨⟨al, dl, xl, xn, xs⟩, aa, an, ac, da, dn, dc⟩ := x
      simp only at x0 x1 x2 x3 x4
      go_wp2_with fail
      refine (HP.out _ (by ((repeat (first | exact Chg.refl _ _ | assumption | refine Chg.drewN ?_ _ | refine Chg.drew ?_ | refine Chg.alloc ?_ _ | refine Chg.setCell ?_ (by first | (simp; done) | (simp; omega) | (intro h; simp at h; omega)) _))))).mono ?_
      rintro e w3 ⟨rfl, hc3⟩
      obtain ⟨b1, hb1⟩ : ∃ b1 : ByteArray, (⟨(putE ⟨al, dl, xl, xn, xs⟩).toArray⟩ : ByteArray) = b1 := ⟨_, rfl⟩
      have hb1l : b1.data.toList = putE ⟨al, dl, xl, xn, xs⟩ := by rw [← hb1]
      have hb1s : b1.size = (putE ⟨al, dl, xl, xn, xs⟩).length := by rw [← hb1]; rfl
      have hc3' : Chg (fun _ => False) wr w3 := Chg.then (by ((repeat (first | exact Chg.refl _ _ | assumption | refine Chg.drewN ?_ _ | refine Chg.drew ?_ | refine Chg.alloc ?_ _ | refine Chg.setCell ?_ (by first | (simp; done) | (simp; omega) | (intro h; simp at h; omega)) _)))) hc3
      have HC3 := Lib.hid hc3'
      have HBL := Lib.hid hb1l
      have HBS := Lib.hid hb1s
      rw [hb1]
      clear hc3 hc3' hb1 hb1l hb1s HP
      have hnext : (l.take (k + 1)).map (·.E) = (l.take k).map (·.E) ++ [⟨al, dl, xl, xn, xs⟩] := by rw [HTK.out, List.map_append]; rfl
      have HNX := Lib.hid hnext
      clear hnext
      by_cases hs : b1.size ≤ 65535
      · have hfr := fra_put b1 w3 hs
        have HFR := Lib.hid hfr
        clear hfr
        go_wp2_with fail
        refine HFR.out.mono ?_
        rintro e w4 ⟨⟨t, hts, rfl⟩, hc4⟩
        have HC4 := Lib.hid (HC3.out.then hc4)
        rw [HBL.out] at hts
        have hsn := framesB_snoc ((l.take k).map (·.E)) ⟨al, dl, xl, xn, xs⟩ t hts
        rw [HFF.out] at hsn
        have hts2 : t.size = 8 + b1.size := by
          have := congrArg List.length hts
          rw [fraB_len, ← HBL.out] at this
          rw [Array.length_toList, Array.length_toList] at this
          exact this
        have hfn : fitsB ((l.take k).map (·.E) ++ [⟨al, dl, xl, xn, xs⟩]) = true := by
          rw [fitsB_snoc, HFT.out]
          have := HBS.out
          rw [decide_eq_true (by omega)]
          rfl
        have hz := HSZ.out
        have HSN := Lib.hid hsn
        have HFN := Lib.hid hfn
        have hi := IntWalk.i64_in ((k : Int) + 1) (by omega)
        have hmx : F.size + t.size ≤ 9223372036854775807 := by
          have : min k l.length ≤ 1000000 := by omega
          have : min k l.length * 65543 ≤ 1000000 * 65543 := Nat.mul_le_mul_right _ this
          omega
        clear hc4 hts hsn hfn hz
        go_wp2_with fail
        go_roundw
        case rel => exact ⟨k + 1, rfl, by rw [HNX.out, HSN.out], by go_num, by omega, by rw [HNX.out]; exact HFN.out, HCW.out.then HC4.out⟩
        case measure => simp [intOf]; omega
      · have hfr := fra_put_no b1 w3 (by have := HPZ.out; have := HBS.out; omega) (by omega)
        have HFR := Lib.hid hfr
        clear hfr
        go_wp2_with fail
        refine HFR.out.mono ?_
        rintro e w4 ⟨rfl, rfl⟩
        go_wp2_with fail
        refine bodyPost_ret (v := .tuple #[.string ⟨#[]⟩, .string ⟨#[]⟩, .int .i64 5]) (by simp [results, Tryz.results35, go_sem]) rfl ⟨?_, HC1.out.then (HCW.out.then HC3.out)⟩
        have hno : fitsB (l.map (·.E)) = false := by
          rw [Bool.eq_false_iff]
          intro hall
          have := List.all_eq_true.1 hall ⟨al, dl, xl, xn, xs⟩ (List.mem_map.2 ⟨_, List.mem_of_getElem? HX.out, rfl⟩)
          have h2 := HBS.out
          simp at this
          omega
        have := HFV.out
        rw [hem, hno] at this
        rw [this]
        rfl
    · have hke : k = l.length := by omega
      subst hke
      have hq : decide ((l.length : Int) < (l.length : Int)) = false := by simp
      rw [List.take_length] at hfit
      rw [List.take_length] at hF
      have HFT := Lib.hid hfit
      have HFF := Lib.hid hF
      have HC := Lib.hid hc
      clear hfit hc hF
      go_wp2_with fail
      have := HFV.out
      rw [hem, HFT.out] at this
      rw [this]
      refine bodyPost_ret (v := .tuple #[.string nm, .string F, .int .i64 0]) (by simp [results, Tryz.results35, go_sem]) rfl ⟨by rw [← HFF.out]; rfl, HC1.out.then HC.out⟩
end Go.Proofs.YtahahginmgidjaaGreatDoor
namespace Go.Proofs.YtahahginmgidjaaGreatDoor
open Go.RowKit
set_option linter.unusedVariables false
set_option linter.unusedSimpArgs false

theorem meta_get {w : World} {v : Value} {l : List MetaV} (h : Lst metaC w v l) : ∃ a cap, v = .slice a l.length cap ∧ l.length ≤ cap ∧ l.length ≤ 9223372036854775807 ∧ ∀ i x, l[i]? = some x → ∃ b, a = some ⟨b, 0, none⟩ ∧ b < w.heap.size ∧ v.ownBlock = some b ∧
    w.cell? ⟨b, i * 4, none⟩ = some (.int .i64 x.file) ∧ w.cell? ⟨b, i * 4 + 1, none⟩ = some (.int .i64 x.size) ∧ w.cell? ⟨b, i * 4 + 2, none⟩ = some (.string x.lo) ∧ w.cell? ⟨b, i * 4 + 3, none⟩ = some (.string x.hi) := by
  obtain ⟨a, cap, e, h1, h2, h3⟩ := meta_form h
  refine ⟨a, cap, e, h1, h2, fun i x hx => ?_⟩
  obtain ⟨hi, rfl⟩ := List.getElem?_eq_some_iff.1 hx
  have hl : l = l.take i ++ l[i] :: l.drop (i + 1) := by rw [← List.drop_eq_getElem_cons, List.take_append_drop]
  have := h3 (l.take i) l[i] (l.drop (i + 1)) hl
  rw [List.length_take, Nat.min_eq_left (by omega)] at this
  exact this
/-- The levels lie apart from each other. -/
def Far (L : Nat → Value) : Prop := ∀ i j k, i < 4 → j < 4 → i ≠ j → (L i).ownBlock = some k → (L j).ownBlock ≠ some k
def LFoot (L : Nat → Value) (k : Nat) : Prop := ∃ i, i < 4 ∧ (L i).ownBlock = some k
theorem VerAt.ne_ {w : World} {L : Nat → Value} {f : Nat → List MetaV} {g : Nat} {t : TypeId} {cs : Array Value} (h : VerAt w L f) (hb : Blk w g t cs) (ht : t ≠ 130) : ¬ LFoot L g := fun ⟨i, hi, hk⟩ => by
  obtain ⟨cs', hb'⟩ := (h i hi).typed hk
  exact hb.ne_ hb' ht rfl
theorem VerAt.one {w w' : World} {L : Nat → Value} {f : Nat → List MetaV} (h : VerAt w L f) (hf : Far L) {i : Nat} (hi : i < 4) {l' : List MetaV} (hl : Lst metaC w' (L i) l') (hc : Chg (fun k => (L i).ownBlock = some k) w w') : VerAt w' L (setLv f i l') := fun j hj => by
  unfold setLv
  by_cases e : j = i
  · subst e; rw [if_pos rfl]; exact hl
  · rw [if_neg e]
    exact (h j hj).chg hc fun k hk e' => hf j i k hj hi e hk e'
def UpAdj (l : List MetaV) (n : Nat) : Prop := ∀ i a b, i < n → l[i]? = some a → l[i + 1]? = some b → sl a.hi b.lo = true

/-- What sort answers. -/
def VSortPost (w : World) (L : Nat → Value) (f : Nat → List MetaV) (e : Ending) (w' : World) : Prop :=
  ∃ r : Bool, e = .returned (.bool r) ∧ Chg (LFoot L) w w' ∧
    (r = true → ∃ F, VerAt w' L F ∧ (∀ i, i < 4 → (F i).Perm (f i) ∧ Sorted (before i) (F i)) ∧ ∀ i, 1 ≤ i → i < 4 → AdjOk (F i)) ∧
    (r = false → ∃ i l, 1 ≤ i ∧ i < 4 ∧ l.Perm (f i) ∧ Sorted (before i) l ∧ ¬ AdjOk l)

set_option maxRecDepth 100000 in
set_option maxHeartbeats 4000000 in
theorem ver_sort (g : Nat) (L : Nat → Value) (f : Nat → List MetaV) (log next seq : Int) (w : World) (hb : Blk w g 29 #[L 0, L 1, L 2, L 3, .int .i64 log, .int .i64 next, .int .i64 seq]) (h : VerAt w L f) (hf : Far L) (hn : ∀ i, i < 4 → (f i).length ≤ 100000000) :
    Calls Tryz.prog 89 #[.pointer (some ⟨g, 0, none⟩)] w (VSortPost w L f) := by
  have hcell : ∀ W, Chg (LFoot L) w W → ∀ i, i < 4 → W.cell? ⟨g, i, none⟩ = some (L i) := fun W hc i hi => by
    have := (hb.chg hc (h.ne_ hb (by decide))).cell i
    match i, hi with
    | 0, _ => simpa using this
    | 1, _ => simpa using this
    | 2, _ => simpa using this
    | 3, _ => simpa using this
  have c0 := hcell w (Chg.refl _ _) 0 (by omega)
  have hs0 := sort_level0 (L 0) (f 0) (by have := hn 0 (by omega); omega) w (h 0 (by omega))
  have H := Lib.hid h
  have HF := Lib.hid hf
  have HN := Lib.hid hn
  have HCELL := Lib.hid hcell
  have HS0 := Lib.hid hs0
  clear h hf hn hcell hs0 hb
  go_enter Tryz.func89, Tryz.ntmps89
  go_wp2_with fail
  refine HS0.out.mono ?_
  rintro e w1 ⟨rfl, l0, hl0, hp0, hso0, hc0⟩
  have hv1 := H.out.one HF.out (by omega) hl0 hc0
  have hc1 : Chg (LFoot L) w w1 := hc0.mono fun k _ hk => ⟨0, by omega, hk⟩
  have HV1 := Lib.hid hv1
  have HC1 := Lib.hid hc1
  have HP0 := Lib.hid hp0
  have HSO0 := Lib.hid hso0
  clear hl0 hp0 hso0 hc0 hv1 hc1 c0
  go_wp2_with fail
  go_loopw [17] (fun i wr => ∃ k : Nat, k ≤ 3 ∧ i = .int .i64 k ∧ ∃ F : Nat → List MetaV, VerAt wr L F ∧ (∀ j, j < 4 → (F j).Perm (f j)) ∧ (∀ j, j ≤ k → Sorted (before j) (F j)) ∧ (∀ j, 1 ≤ j → j ≤ k → AdjOk (F j)) ∧ Chg (LFoot L) w wr) (fun i _ => 3 - (intOf i).toNat)
  case atStart =>
    refine ⟨0, by omega, rfl, _, HV1.out, fun j hj => ?_, fun j hj => ?_, fun j h1 h2 => by omega, HC1.out⟩
    · unfold setLv
      by_cases e : j = 0
      · subst e; rw [if_pos rfl]; exact HP0.out
      · rw [if_neg e]
    · obtain rfl : j = 0 := by omega
      simpa [setLv] using HSO0.out
  case round =>
    obtain ⟨k, hk, rfl, F, hv, hp, hso, had, hc⟩ := hrel
    by_cases hlt : k < 3
    · have hz := HCELL.out wr hc (1 + k) (by omega)
      have hlen : (F (1 + k)).length ≤ 100000000 := by rw [(hp (1 + k) (by omega)).length_eq]; exact HN.out _ (by omega)
      have hs := sort_level (1 + k) (by omega) (L (1 + k)) (F (1 + k)) (by omega) wr (hv _ (by omega))
      obtain ⟨la, lc, hL, hlc, hln, _⟩ := meta_form (hv (1 + k) (by omega))
      have hLb := hL
      obtain ⟨n, hnn⟩ : ∃ n, (F (1 + k)).length = n := ⟨_, rfl⟩
      rw [hnn] at hL hlen hlc hln
      rw [hL] at hz hs
      have hlt' : (k : Int) < 3 := by omega
      have hge : (0 : Int) ≤ (k : Int) := by omega
      have HV := Lib.hid hv
      have HP := Lib.hid hp
      have HSO := Lib.hid hso
      have HAD := Lib.hid had
      have HC := Lib.hid hc
      have HL := Lib.hid hL
      have HNN := Lib.hid hnn
      have HS := Lib.hid hs
      obtain ⟨wo, hwo⟩ : ∃ wo : World, wo = wr := ⟨_, rfl⟩
      subst hwo
      clear hv hp hso had hc hL hnn hs hLb
      go_wp2_with fail
      refine HS.out.mono ?_
      rintro e w2 ⟨rfl, l', hl', hp', hso', hc2⟩
      have hv2 := HV.out.one HF.out (i := 1 + k) (by omega) (by rw [HL.out]; exact hl') (by rw [HL.out]; exact hc2)
      have hc3 : Chg (LFoot L) w w2 := HC.out.trans hc2 fun k' _ hk' => ⟨1 + k, by omega, by rw [HL.out]; exact hk'⟩
      have hl2 : l'.length = n := by rw [hp'.length_eq]; exact HNN.out
      obtain ⟨_, _, e2, _, _, hget⟩ := meta_get hl'
      rw [hl2] at e2
      injection e2 with e3 e4 e5
      subst e3 e5
      have HV2 := Lib.hid hv2
      have HC3 := Lib.hid hc3
      have HL2 := Lib.hid hl2
      have HGET := Lib.hid hget
      have HP' := Lib.hid hp'
      have HSO' := Lib.hid hso'
      clear hl' hp' hso' hc2 hv2 hc3 hl2 hget e4 hz
      go_wp2_with fail
      go_loopw [5] (fun i wr => ∃ m : Nat, i = .int .i64 ((m : Int) + 1) ∧ m ≤ n ∧ UpAdj l' m ∧ ∃ q, w2.drewN q = wr) (fun i _ => n + 1 - (intOf i).toNat)
      case atStart => exact ⟨0, rfl, by omega, fun i a b hi => by omega, 0, rfl⟩
      case round =>
        obtain ⟨m, rfl, hm, hu, q, rfl⟩ := hrel
        have hm0 : (0 : Int) ≤ (m : Int) := by omega
        by_cases hlt2 : m + 1 < n
        · have hi1 : m < l'.length := by rw [HL2.out]; omega
          have hi2 : m + 1 < l'.length := by rw [HL2.out]; omega
          obtain ⟨b, rfl, hb, _, _, _, _, z3⟩ := HGET.out m l'[m] (List.getElem?_eq_getElem hi1)
          obtain ⟨b2, e2, _, _, _, _, z2, _⟩ := HGET.out (m + 1) l'[m + 1] (List.getElem?_eq_getElem hi2)
          injection e2 with e2
          injection e2 with e2
          subst e2
          have z3' : (w2.drewN q).cell? ⟨b, m * 4 + 3, none⟩ = some (.string l'[m].hi) := z3
          have z2' : (w2.drewN q).cell? ⟨b, (m + 1) * 4 + 2, none⟩ = some (.string l'[m + 1].lo) := z2
          have hltI : (m : Int) + 1 < (n : Int) := by omega
          have hnI : (n : Int) ≤ 100000000 := by omega
          have hwr : IntKind.i64.wrap ((m : Int) + 1 - 1) = (m : Int) := by rw [show (m : Int) + 1 - 1 = m from by omega]; exact IntWalk.i64_in _ (by omega)
          have hwr2 : IntKind.i64.wrap (m : Int) = (m : Int) := IntWalk.i64_in _ (by omega)
          have hmn : (m : Int) < (n : Int) := by omega
          have hm1 : (0 : Int) ≤ (m : Int) + 1 := by omega
          have htn : ((m : Int) + 1).toNat = m + 1 := by omega
          have hstep : sl l'[m].hi l'[m + 1].lo = true → UpAdj l' (m + 1) := fun h i a b hi ha hb => by
            by_cases e : i = m
            · subst e
              rw [List.getElem?_eq_getElem hi1] at ha
              rw [List.getElem?_eq_getElem hi2] at hb
              cases ha; cases hb; exact h
            · exact hu i a b (by omega) ha hb
          have hstop : sl l'[m].hi l'[m + 1].lo = false → ¬ AdjOk l' := fun h ha => by
            have := ha m _ _ (List.getElem?_eq_getElem hi1) (List.getElem?_eq_getElem hi2)
            rw [h] at this; cases this
          unfold sl at hstep hstop
          have HST := Lib.hid hstep
          have HSP := Lib.hid hstop
          generalize l'[m].hi = s1 at *
          generalize l'[m + 1].lo = s2 at *
          clear hstep hstop hu
          cases ht : Op.bytesLess s1.toList s2.toList with
          | true =>
            have hU := HST.out ht
            have HU := Lib.hid hU
            clear hU HST HSP
            go_wp2_with fail
            go_quiet (fail)
            go_wp2_with fail
            go_roundw
            case rel => exact ⟨m + 1, by go_num, by omega, HU.out, _, rfl⟩
            case measure => simp [intOf]; omega
          | false =>
            have hU := HSP.out ht
            have HU := Lib.hid hU
            clear hU HST HSP
            go_wp2_with fail
            go_quiet (fail)
            go_wp2_with fail
            go_ret
            exact ⟨false, rfl, (HC3.out.drewN _).drewN _, (fun h => by cases h), fun _ => ⟨1 + k, l', by omega, by omega, HP'.out.trans (HP.out _ (by omega)), HSO'.out, HU.out⟩⟩
        · have hltI : ¬ (m : Int) + 1 < (n : Int) := by omega
          have hok : AdjOk l' := fun i a b ha hb => by
            have := (List.getElem?_eq_some_iff.1 hb).1
            exact hu i a b (by have := HL2.out; omega) ha hb
          have HOK := Lib.hid hok
          have hp3 : ∀ j, j < 4 → (setLv F (1 + k) l' j).Perm (f j) := fun j hj => by
            unfold setLv
            by_cases e : j = 1 + k
            · subst e; rw [if_pos rfl]; exact HP'.out.trans (HP.out _ hj)
            · rw [if_neg e]; exact HP.out j hj
          have hso3 : ∀ j, j ≤ k + 1 → Sorted (before j) (setLv F (1 + k) l' j) := fun j hj => by
            unfold setLv
            by_cases e : j = 1 + k
            · subst e; rw [if_pos rfl]; exact HSO'.out
            · rw [if_neg e]; exact HSO.out j (by omega)
          have had3 : ∀ j, 1 ≤ j → j ≤ k + 1 → AdjOk (setLv F (1 + k) l' j) := fun j h1 hj => by
            unfold setLv
            by_cases e : j = 1 + k
            · subst e; rw [if_pos rfl]; exact HOK.out
            · rw [if_neg e]; exact HAD.out j h1 (by omega)
          have HP3 := Lib.hid hp3
          have HSO3 := Lib.hid hso3
          have HAD3 := Lib.hid had3
          clear hp3 hso3 had3 hok hu
          go_wp2_with fail
          go_roundw
          case rel => exact ⟨k + 1, by omega, by go_num, setLv F (1 + k) l', VerAt.same HV2.out (by ((repeat (first | exact Chg.refl _ _ | assumption | refine Chg.drewN ?_ _ | refine Chg.drew ?_ | refine Chg.alloc ?_ _ | refine Chg.setCell ?_ (by first | (simp; done) | (simp; omega) | (intro h; simp at h; omega)) _)))), HP3.out, HSO3.out, HAD3.out, HC3.out.drewN _⟩
          case measure => simp [intOf]; omega
    · obtain rfl : k = 3 := by omega
      have HV := Lib.hid hv
      have HP := Lib.hid hp
      have HSO := Lib.hid hso
      have HAD := Lib.hid had
      have HC := Lib.hid hc
      clear hv hp hso had hc hlt
      go_wp2_with fail
      go_ret
      exact ⟨true, rfl, HC.out, fun _ => ⟨F, HV.out, fun i hi => ⟨HP.out i hi, HSO.out i (by omega)⟩, fun i h1 h4 => HAD.out i h1 (by omega)⟩, fun h => by cases h⟩
end Go.Proofs.YtahahginmgidjaaGreatDoor
namespace Go.Proofs.YtahahginmgidjaaGreatDoor
open Go.RowKit
set_option linter.unusedVariables false
set_option linter.unusedSimpArgs false

def I64 (x : Int) : Prop := -9223372036854775808 ≤ x ∧ x ≤ 9223372036854775807
theorem ikey_law : Go.Maps.Keyed Tryz.prog 2 := Go.Maps.int_keyed Tryz.underlying2
theorem ikey_of {x : Int} (h : I64 x) : ∃ l, keyOf Tryz.prog 2 (.int .i64 x) = some l := by
  have h1 : decide (1 ≤ Tryz.prog.types.size) = true := by kernel_rfl
  obtain ⟨n, hn⟩ := Nat.exists_eq_add_of_le (of_decide_eq_true h1)
  unfold keyOf
  rw [Tryz.underlying2]
  refine ⟨.int .i64 x, ?_⟩
  obtain ⟨h2, h3⟩ := h
  have hw : (Lit.int .i64 x).wf = true := by
    simp [Lit.wf, IntKind.min, IntKind.max, IntKind.signed, IntKind.bits]; omega
  simp [mapKey, Tryz.underlying2, hw]
theorem zero_int (w : World) : (zeroValue 3).run Tryz.prog w = .ok (.int .i64 0) w := by kernel_rfl
/-- A map that counts. -/
def cntF (c : Int → Nat) : Value → Option Value := fun v => match v with | .int .i64 x => if c x = 0 then none else some (.int .i64 (c x : Int)) | _ => none
def CntAt (w : World) (b : Nat) (c : Int → Nat) : Prop := ∃ n, MapAt Tryz.prog 2 w b n (cntF c)
def bump (c : Int → Nat) (x : Int) : Int → Nat := fun y => if y = x then c y + 1 else c y
theorem cntF_bump (c : Int → Nat) (x : Int) : upd (cntF c) (.int .i64 x) (some (.int .i64 ((c x : Int) + 1))) = cntF (bump c x) := by
  funext v
  by_cases h : v = .int .i64 x
  · subst h
    rw [upd_same]
    simp [cntF, bump]
  · rw [upd_other _ _ h]
    cases v with
    | int k y =>
      cases k with
      | i64 =>
        have : y ≠ x := fun e => h (by rw [e])
        simp [cntF, bump, this]
      | _ => rfl
    | _ => rfl
theorem cntF_getD (c : Int → Nat) (x : Int) : ((cntF c) (.int .i64 x)).getD (.int .i64 0) = .int .i64 (c x : Int) := by
  unfold cntF
  by_cases h : c x = 0
  · simp [h]
  · simp [h]
section
variable {w w' : World} {b : Nat} {c : Int → Nat} {x : Int}
theorem CntAt.new (w : World) : CntAt (w.alloc (.map #[] 0)) w.heap.size fun _ => 0 := by
  refine ⟨0, ?_⟩
  have : cntF (fun _ => 0) = fun _ => none := by
    funext v; cases v with
    | int k y => cases k <;> simp [cntF]
    | _ => rfl
  rw [this]
  exact MapAt.new _ _ w
theorem CntAt.chg {S : Nat → Prop} (h : CntAt w b c) (hc : Chg S w w') (hS : ¬ S b) : CntAt w' b c := h.imp fun n hn => hn.chg hc hS
theorem CntAt.same (h : CntAt w b c) (hc : Chg (fun _ => False) w w') : CntAt w' b c := h.chg hc (by simp)
theorem CntAt.lt (h : CntAt w b c) : b < w.heap.size := by obtain ⟨n, hn⟩ := h; exact hn.lt
theorem CntAt.look (h : CntAt w b c) (hx : I64 x) : (Instr.lookup 167 (.map (some b)) (.int .i64 x) false).run Tryz.prog w = .ok (.int .i64 (c x : Int)) w := by
  obtain ⟨n, hn⟩ := h
  obtain ⟨l, hl⟩ := ikey_of hx
  have := hn.look ikey_law Tryz.underlying167 (zero_int w) hl false
  rw [cntF_getD] at this
  exact this
theorem CntAt.bump (h : CntAt w b c) (hx : I64 x) : ∃ w', (Instr.mapUpdate 167 (.map (some b)) (.int .i64 x) (.int .i64 ((c x : Int) + 1))).run Tryz.prog w = .ok () w' ∧ CntAt w' b (bump c x) ∧ Chg (fun k => k = b) w w' ∧ w'.heap.size = w.heap.size := by
  obtain ⟨n, hn⟩ := h
  obtain ⟨l, hl⟩ := ikey_of hx
  obtain ⟨w', h1, h2, h3, h4⟩ := hn.store ikey_law Tryz.underlying167 hl (.int .i64 ((c x : Int) + 1))
  rw [cntF_bump] at h2
  exact ⟨w', h1, ⟨_, h2⟩, h3, h4⟩
theorem CntAt.ne_ {g : Nat} {t : TypeId} {cs : Array Value} (h : CntAt w b c) (h' : Blk w g t cs) : b ≠ g := by
  obtain ⟨n, hn⟩ := h
  exact fun e => h'.ne_map hn e.symm
end
theorem bump_count (l : List Int) (x : Int) : bump (fun y => l.count y) x = fun y => (l ++ [x]).count y := by
  funext y
  unfold bump
  rw [List.count_append]
  by_cases h : y = x
  · subst h; simp
  · have : ¬ x = y := fun e => h e.symm
    simp [h, List.count_singleton, this]
/-! ### A version under way -/
def setL (L : Nat → Value) (i : Nat) (v : Value) : Nat → Value := fun j => if j = i then v else L j
structure OutAt (w : World) (g base : Nat) (L : Nat → Value) (f : Nat → List MetaV) (log next seq : Int) : Prop where
  blk : Blk w g 29 #[L 0, L 1, L 2, L 3, .int .i64 log, .int .i64 next, .int .i64 seq]
  at_ : VerAt w L f
  far : Far L
  new : ∀ i, i < 4 → ∀ b, (L i).ownBlock = some b → base ≤ b
section
variable {w w' w4 : World} {g base : Nat} {L : Nat → Value} {f : Nat → List MetaV} {log next seq : Int}
theorem OutAt.same (h : OutAt w g base L f log next seq) (hc : Chg (fun _ => False) w w') : OutAt w' g base L f log next seq :=
  ⟨h.blk.chg hc (by simp), h.at_.same hc, h.far, h.new⟩
theorem OutAt.cell (h : OutAt w g base L f log next seq) {i : Nat} (hi : i < 4) : w.cell? ⟨g, i, none⟩ = some (L i) := by
  have := h.blk.cell i
  match i, hi with
  | 0, _ => simpa using this
  | 1, _ => simpa using this
  | 2, _ => simpa using this
  | 3, _ => simpa using this
theorem OutAt.ne_ (h : OutAt w g base L f log next seq) {i : Nat} (hi : i < 4) : (L i).ownBlock ≠ some g := fun e => by
  obtain ⟨cs, hb⟩ := (h.at_ i hi).typed e
  exact hb.ne_ h.blk (by decide) rfl
theorem OutAt.made (w : World) (log next seq : Int) (f : Nat → List MetaV) (hf : ∀ i, i < 4 → f i = []) (base : Nat) {w1 : World} (hb : Blk w1 w.heap.size 29 #[.slice none 0 0, .slice none 0 0, .slice none 0 0, .slice none 0 0, .int .i64 log, .int .i64 next, .int .i64 seq]) : OutAt w1 w.heap.size base (fun _ => .slice none 0 0) f log next seq :=
  ⟨hb, fun i hi => by rw [hf i hi]; exact Lst.nil _ _, fun i j k _ _ _ h => by simp [Value.ownBlock] at h, fun i _ b h => by simp [Value.ownBlock] at h⟩
/-- A table was appended to a level. -/
theorem OutAt.push (h : OutAt w g base L f log next seq) {i : Nat} (hi : i < 4) {x : MetaV} {v' : Value} (hbase : base ≤ w.heap.size) (hO : Lst metaC w4 v' (f i ++ [x])) (hc : Chg (fun k => (L i).ownBlock = some k) w w4) (hk : ∀ k, v'.ownBlock = some k → (L i).ownBlock = some k ∨ w.heap.size ≤ k) :
    OutAt (w4.setCell ⟨g, i, none⟩ v') g base (setL L i v') (setLv f i (f i ++ [x])) log next seq ∧ Chg (fun k => k = g ∨ (L i).ownBlock = some k) w (w4.setCell ⟨g, i, none⟩ v') := by
  have hne := h.ne_ hi
  have hb4 := h.blk.chg hc hne
  have hset : Chg (fun k => k = g) w4 (w4.setCell ⟨g, i, none⟩ v') := Chg.setCell (S := fun k => k = g) (Chg.refl _ w4) (p := ⟨g, i, none⟩) (fun _ => rfl) v'
  have hne' : v'.ownBlock ≠ some g := fun e => by
    obtain ⟨cs, hb⟩ := hO.typed e
    exact hb.ne_ hb4 (by decide) rfl
  refine ⟨⟨?_, fun j hj => ?_, fun a b k ha hb hab h1 h2 => ?_, fun j hj b hb => ?_⟩, ?_⟩
  · have := hb4.set_ i v'
    match i, hi with
    | 0, _ => simpa [setL] using this
    | 1, _ => simpa [setL] using this
    | 2, _ => simpa [setL] using this
    | 3, _ => simpa [setL] using this
  · unfold setL setLv
    by_cases e : j = i
    · subst e
      rw [if_pos rfl, if_pos rfl]
      exact hO.chg hset fun k hk' e => hne' (by rw [← e]; exact hk')
    · rw [if_neg e, if_neg e]
      exact ((h.at_ j hj).chg hc fun k hk' e' => h.far j i k hj hi e hk' e').chg hset fun k hk' e' => h.ne_ hj (by rw [← e']; exact hk')
  · have lt : ∀ c, c < 4 → ∀ k, (L c).ownBlock = some k → k < w.heap.size := fun c hc' k hk' => (h.at_ c hc').lt hk'
    unfold setL at h1 h2
    by_cases ea : a = i
    · have eb : b ≠ i := fun e => hab (by rw [ea, e])
      rw [if_pos ea] at h1
      rw [if_neg eb] at h2
      rcases hk k h1 with e | e
      · exact h.far i b k hi hb (fun e => eb e.symm) e h2
      · have := lt b hb k h2; omega
    · rw [if_neg ea] at h1
      by_cases eb : b = i
      · rw [if_pos eb] at h2
        rcases hk k h2 with e | e
        · exact h.far a i k ha hi ea h1 e
        · have := lt a ha k h1; omega
      · rw [if_neg eb] at h2
        exact h.far a b k ha hb hab h1 h2
  · unfold setL at hb
    by_cases e : j = i
    · rw [if_pos e] at hb
      rcases hk b hb with e' | e'
      · exact h.new i hi b e'
      · omega
    · rw [if_neg e] at hb
      exact h.new j hj b hb
  · exact (hc.mono fun k _ hk' => .inr hk').trans hset fun k _ e => .inl e
end
/-- What the program's Apply answers. -/
def VApplyPost (w : World) (S : VerV) (E : EditV) (e : Ending) (w' : World) : Prop :=
  Chg (fun _ => False) w w' ∧
  ((okV S E ∧ ∃ L : Nat → Value, e = .returned (.tuple #[.agg #[L 0, L 1, L 2, L 3, .int .i64 E.log, .int .i64 E.next, .int .i64 E.seq], .int .i64 0]) ∧ VerAt w' L (nextV S E).lv ∧ ∀ i, i < 4 → ∀ b, (L i).ownBlock = some b → w.heap.size ≤ b) ∨
   (¬ okV S E ∧ e = .returned (.tuple #[.agg #[.slice none 0 0, .slice none 0 0, .slice none 0 0, .slice none 0 0, .int .i64 0, .int .i64 0, .int .i64 0], .int .i64 17])))
/-- Bounds of the numbers in an edit: those of the type. -/
structure EdOk (E : EditV) : Prop where
  drop : ∀ x ∈ E.drop, I64 x
  add : ∀ p ∈ E.add, I64 p.m.file
end Go.Proofs.YtahahginmgidjaaGreatDoor
namespace Go.Proofs.YtahahginmgidjaaGreatDoor
open Go.RowKit
set_option linter.unusedVariables false
set_option linter.unusedSimpArgs false

theorem nodup_count {l : List Int} (h : l.Nodup) (x : Int) : l.count x = if x ∈ l then 1 else 0 := List.Nodup.count h
theorem sorted_files_mem {f : Nat → List MetaV} (x : Int) : x ∈ ((filesOf (flatF f)).mergeSort fun x y => decide (x ≤ y)) ↔ x ∈ filesOf (flatF f) := (merge_perm _).mem_iff
theorem flatF_le {f : Nat → List MetaV} {n : Nat} (h : ∀ i, i < 4 → (f i).length ≤ n) : (filesOf (flatF f)).length ≤ 4 * n := by
  have h0 := h 0 (by omega); have h1 := h 1 (by omega); have h2 := h 2 (by omega); have h3 := h 3 (by omega)
  simp only [filesOf, flatF, atLevel, List.length_map, List.length_append]
  omega
/-- The levels under way: kept tables, level by level. -/
def keptUp (d : List Int) (f : Nat → List MetaV) (k : Nat) (A : List MetaV) : Nat → List MetaV := fun j => if j < k then kept d (f j) else if j = k then kept d A else []
theorem keptUp_next (d : List Int) (f : Nat → List MetaV) (k : Nat) : keptUp d f k (f k) = keptUp d f (k + 1) [] := by
  funext j
  unfold keptUp
  by_cases h1 : j < k
  · rw [if_pos h1, if_pos (by omega)]
  · by_cases h2 : j = k
    · subst h2; rw [if_neg (by omega), if_pos rfl, if_pos (by omega)]
    · rw [if_neg h1, if_neg h2, if_neg (by omega)]
      split <;> simp [kept]
theorem keptUp_push (d : List Int) (f : Nat → List MetaV) (k : Nat) (A : List MetaV) (x : MetaV) (hx : x.file ∉ d) : setLv (keptUp d f k A) k (keptUp d f k A k ++ [x]) = keptUp d f k (A ++ [x]) := by
  funext j
  unfold setLv keptUp
  by_cases h2 : j = k
  · subst h2
    simp [kept, hx]
  · simp [h2]
theorem keptUp_skip (d : List Int) (f : Nat → List MetaV) (k : Nat) (A : List MetaV) (x : MetaV) (hx : x.file ∈ d) : keptUp d f k (A ++ [x]) = keptUp d f k A := by
  funext j
  unfold keptUp
  by_cases h2 : j = k
  · subst h2; simp [kept, hx]
  · simp [h2]
theorem keptUp_at (d : List Int) (f : Nat → List MetaV) (k : Nat) (A : List MetaV) : keptUp d f k A k = kept d A := by simp [keptUp]
/-- .. and added ones. -/
def addUp (d : List Int) (f : Nat → List MetaV) (A : List PlaceV) : Nat → List MetaV := fun j => keptUp d f 4 [] j ++ added j A
theorem addUp_push (d : List Int) (f : Nat → List MetaV) (A : List PlaceV) (l : Nat) (m : MetaV) : setLv (addUp d f A) l (addUp d f A l ++ [m]) = addUp d f (A ++ [⟨(l : Int), m⟩]) := by
  funext j
  unfold setLv addUp
  have e : added j (A ++ [⟨(l : Int), m⟩]) = added j A ++ (if j = l then [m] else []) := by
    unfold added
    by_cases h : j = l
    · subst h; simp
    · have : ¬ ((l : Int) = (j : Int)) := by omega
      simp [h, this]
  rw [e]
  by_cases h : j = l
  · subst h; simp
  · simp [h]
theorem addUp_perm (S : VerV) (E : EditV) {i : Nat} (hi : i < 4) : ((nextV S E).lv i).Perm (addUp E.drop S.lv E.add i) := by
  have := next_perm S E i
  unfold addUp keptUp
  rw [if_pos hi]
  exact this
theorem addUp_ends {S : VerV} {E : EditV} (h : Good S) (hn : okNums S E) (ha : okAdds (filesOf (flat S)) E.next E.add) {i : Nat} (hi : i < 4) : ∀ m ∈ addUp E.drop S.lv E.add i, sl m.hi m.lo = false := fun m hm => by
  unfold addUp keptUp at hm
  rw [if_pos hi] at hm
  rcases List.mem_append.1 hm with hm | hm
  · exact (h.ends i hi m ((kept_sub _ _).subset hm)).1
  · obtain ⟨p, hp, rfl⟩ := List.mem_map.1 hm
    exact (ha.1 p (List.mem_filter.1 hp).1).1.2.2.2.2.2
theorem addUp_nil (d : List Int) (f : Nat → List MetaV) : addUp d f [] = keptUp d f 4 [] := by
  funext j; simp [addUp, added]
theorem addUp_len (d : List Int) (f : Nat → List MetaV) (T : List PlaceV) (i : Nat) (h : (f i).length ≤ 50000000) (hT : T.length ≤ 50000000) : (addUp d f T i).length ≤ 100000000 := by
  unfold addUp keptUp
  rw [List.length_append]
  have h1 : (added i T).length ≤ T.length := by
    unfold added
    rw [List.length_map]
    exact List.length_filter_le _ _
  have h2 : (kept d (f i)).length ≤ (f i).length := List.length_filter_le _ _
  split
  · omega
  · split <;> simp [kept] <;> omega
theorem OutAt.chgS {w w' : World} {g base : Nat} {L : Nat → Value} {f : Nat → List MetaV} {log next seq : Int} {S : Nat → Prop} (h : OutAt w g base L f log next seq) (hc : Chg S w w') (hG : ¬ S g) (hL : ∀ i, i < 4 → ∀ b, (L i).ownBlock = some b → ¬ S b) : OutAt w' g base L f log next seq :=
  ⟨h.blk.chg hc hG, fun i hi => (h.at_ i hi).chg hc fun k hk => hL i hi k hk, h.far, h.new⟩
/-- A table was appended to a level and stored back: all that is kept. -/
theorem push_all {w8 w11 w4 : World} {g base m i : Nat} {L : Nat → Value} {f f' : Nat → List MetaV} {log next seq : Int} {c : Int → Nat} {K : List MetaV} {x : MetaV} {v0 v' : Value} (h : OutAt w11 g base L f log next seq) (hi : i < 4) (hbase : base ≤ w11.heap.size) (hK : f i = K) (hLo : L i = v0)
    (hO : Lst metaC w4 v' (K ++ [x])) (hc : Chg (fun k => v0.ownBlock = some k) w11 w4) (hk : ∀ k, v'.ownBlock = some k → v0.ownBlock = some k ∨ w11.heap.size ≤ k) (hf : setLv f i (K ++ [x]) = f') (hcm : CntAt w11 m c) (hm : m < base) (hmg : m < g) (h8 : Chg (fun k => k = m) w8 w11) (hb8 : w8.heap.size ≤ base) (hg8 : w8.heap.size ≤ g) :
    ∃ L', OutAt (w4.setCell ⟨g, i, none⟩ v') g base L' f' log next seq ∧ CntAt (w4.setCell ⟨g, i, none⟩ v') m c ∧ Chg (fun k => k = m) w8 (w4.setCell ⟨g, i, none⟩ v') := by
  subst hK hLo hf
  obtain ⟨h1, h2⟩ := h.push hi hbase hO hc hk
  refine ⟨_, h1, hcm.chg h2 ?_, h8.trans h2 fun k hk' e => ?_⟩
  · rintro (e | e)
    · omega
    · have := h.new i hi m e; omega
  · rcases e with e | e
    · omega
    · have := h.new i hi k e; omega
/-- What sort's answer says. -/
theorem sort_says {S : VerV} {E : EditV} (h : Good S) (hn : okNums S E) (ha : okAdds (filesOf (flat S)) E.next E.add) {i : Nat} (h1 : 1 ≤ i) (hi : i < 4) {l : List MetaV} (hp : l.Perm (addUp E.drop S.lv E.add i)) (hs : Sorted (before i) l) : AdjOk l ↔ ((nextV S E).lv i).Pairwise Apart :=
  level_asked (by omega) (hp.trans (addUp_perm S E hi).symm) hs fun x hx => addUp_ends h hn ha hi x (hp.mem_iff.1 hx)
theorem sort_gives {S : VerV} {E : EditV} (h : Good S) (ho : okV S E) {F : Nat → List MetaV} (hF : ∀ i, i < 4 → (F i).Perm (addUp E.drop S.lv E.add i) ∧ Sorted (before i) (F i)) {i : Nat} (hi : i < 4) : F i = (nextV S E).lv i := by
  obtain ⟨hp, hs⟩ := hF i hi
  have hp' := hp.trans (addUp_perm S E hi).symm
  by_cases h0 : i = 0
  · subst h0
    exact level_first hp' hs (next_sorted h E (by omega)) (level_nodup (next_nodup h ho))
  · exact level_rest h0 hp' hs (next_sorted h E hi) (fun x hx => addUp_ends h ho.1 ho.2.2.1 hi x (hp.mem_iff.1 hx)) (ho.2.2.2 i (by omega) hi)
end Go.Proofs.YtahahginmgidjaaGreatDoor
