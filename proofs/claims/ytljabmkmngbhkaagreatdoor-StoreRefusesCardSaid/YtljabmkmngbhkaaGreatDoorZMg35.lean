/-
  The document's bytes of an edit: Put.
  The program's reader: number, below, text; a fault leaves by a panic.
  The edit that bytes are: Get, which catches a fault.
  The program's manifest: framed.
  Words for the program's Apply: maps that count files; a version under way whose levels grow.
  Lemmas for the walks of the program's Apply.
  The program's version: Apply, one way of it.
  The program's version: Apply, one way of it.
  The program's version: Apply, one way of it.
  The program's version: Apply, one way of it.
  The program's version: Apply, one way of it.
  The program's version: Apply, whole.
  The laws' edits in memory; what holds of every version that edits made; Apply by an edit that can be and by one that can't.
  What VerKa and VerJ hold, under one name.
  The law's after: the version behind all edits that can be.
  The levels of a version from one on, as one list: plain facts.
-/
import Derived.Test.YtljabmkmngbhkaaGreatDoorZMg34
import Derived.WalkLawsBesides
import Derived.Defers
import Derived.Recover
import Derived.Laws.Pointers
import Derived.Test.YtljabmkmngbhkaaGreatDoorZManD
import Derived.Test.YtljabmkmngbhkaaGreatDoorZVerC
import Derived.Test.YtljabmkmngbhkaaGreatDoorZMg02
import Derived.Deep.DeepCutAuto
import Derived.Deep.CutBlock
import Derived.Deep.RegionLaw
import Derived.Test.YtljabmkmngbhkaaGreatDoorZMg20
import Derived.Outline
import Derived.Test.YtljabmkmngbhkaaGreatDoorZMg27
namespace Go.Proofs.YtljabmkmngbhkaaGreatDoor
open Go.RowKit
set_option linter.unusedVariables false
set_option linter.unusedSimpArgs false

end Go.Proofs.YtljabmkmngbhkaaGreatDoor
namespace Go.Proofs.YtljabmkmngbhkaaGreatDoor
open Go.RowKit
set_option linter.unusedVariables false
set_option linter.unusedSimpArgs false

end Go.Proofs.YtljabmkmngbhkaaGreatDoor
namespace Go.Proofs.YtljabmkmngbhkaaGreatDoor
open Go.RowKit
set_option linter.unusedVariables false
set_option linter.unusedSimpArgs false

/-- What a frame keeps till a panic: where its results lie, its deferred calls. -/
def Keep (g : Nat) (D : List Deferred) (a : Act) : Prop := a.tmps.getD 2 undef = .pointer (some ⟨g, 0, none⟩) ∧ a.tmps.getD 3 undef = .pointer (some ⟨g + 1, 0, none⟩) ∧ a.defers = D
theorem Keep.put {g : Nat} {D : List Deferred} {a : Act} {k : Nat} {v : Value} (h2 : k ≠ 2) (h3 : k ≠ 3) (h : Keep g D (a.put (some k) v)) : Keep g D a := by
  obtain ⟨e2, e3, e4⟩ := h
  refine ⟨?_, ?_, e4⟩
  · rw [← e2]
    simp [Act.put, Array.getD_eq_getD_getElem?, Array.getElem?_setIfInBounds, h2]
  · rw [← e3]
    simp [Act.put, Array.getD_eq_getD_getElem?, Array.getElem?_setIfInBounds, h3]
/-! ### The edit that bytes are, in plain words -/
section
variable (s : List UInt8) (log next seq : Int)
end
def getD (g : Nat) : List Deferred := [{ target := .fn (.func 227) #[.pointer (some ⟨g, 0, none⟩), .pointer (some ⟨g + 1, 0, none⟩)], args := #[] }]
end Go.Proofs.YtljabmkmngbhkaaGreatDoor
namespace Go.Proofs.YtljabmkmngbhkaaGreatDoor
open Go.RowKit
set_option linter.unusedVariables false
set_option linter.unusedSimpArgs false

/-- An edit as it lies in a list of edits. -/
structure EdX where
  E : EditV
  aa : Option Addr
  an : Nat
  ac : Nat
  da : Option Addr
  dn : Nat
  dc : Nat
def EdX.add (x : EdX) : Value := .slice x.aa x.an x.ac
def EdX.drop (x : EdX) : Value := .slice x.da x.dn x.dc
def edC : Codec EdX := ⟨fun x => [.slice x.aa x.an x.ac, .slice x.da x.dn x.dc, .int .i64 x.E.log, .int .i64 x.E.next, .int .i64 x.E.seq], 5, 157, 364, .agg #[.slice none 0 0, .slice none 0 0, .int .i64 0, .int .i64 0, .int .i64 0], 72⟩
theorem edOk : edC.Ok := ⟨fun _ => rfl, by decide, fun x v hv => by simp [edC] at hv; rcases hv with rfl | rfl | rfl | rfl | rfl <;> rfl, Tryz.underlying364, by kernel_rfl, rfl, by decide⟩
def EdsIn (w : World) (l : List EdX) : Prop := ∀ x ∈ l, ReadRows w x.add x.E.add ∧ ReadInts w x.drop x.E.drop ∧ EdFit x.E
theorem EdsIn.same {w w' : World} {l : List EdX} (h : EdsIn w l) (hc : Chg (fun _ => False) w w') : EdsIn w' l := fun x hx => ⟨(h x hx).1.same hc, (h x hx).2.1.same hc, (h x hx).2.2⟩
def framesB (l : List EditV) : ByteArray := ⟨(l.flatMap fun E => fraB (putE E)).toArray⟩
def fitsB (l : List EditV) : Bool := l.all fun E => decide ((putE E).length ≤ 65535)
def framedV (n : Int) (l : List EditV) : ByteArray × ByteArray × Int :=
  if (fileB kindB n).toList.isEmpty then (⟨#[]⟩, ⟨#[]⟩, 2) else if fitsB l then (fileB kindB n, framesB l, 0) else (⟨#[]⟩, ⟨#[]⟩, 5)
theorem framesB_snoc (l : List EditV) (E : EditV) (t : ByteArray) (h : t.data.toList = fraB (putE E)) : framesB (l ++ [E]) = framesB l ++ t := by
  unfold framesB
  apply ByteArray.ext
  simp [h, ← Array.toList_inj]
theorem framesB_size (l : List EditV) (h : fitsB l = true) : (framesB l).size ≤ l.length * 65543 := by
  unfold framesB
  show (l.flatMap fun E => fraB (putE E)).toArray.size ≤ _
  rw [List.size_toArray]
  induction l with
  | nil => simp
  | cons E r ih =>
    simp only [fitsB, List.all_cons, Bool.and_eq_true, decide_eq_true_eq] at h
    rw [List.flatMap_cons, List.length_append, fraB_len, List.length_cons]
    have := ih h.2
    omega
theorem fitsB_snoc (l : List EditV) (E : EditV) : fitsB (l ++ [E]) = (fitsB l && decide ((putE E).length ≤ 65535)) := by simp [fitsB]
theorem putE_size {E : EditV} (h : EdFit E) : (putE E).length ≤ 140737488355328 := by
  have hln := h.drops
  have hla := h.adds
  obtain ⟨_, _⟩ := h.log
  obtain ⟨_, _⟩ := h.next
  obtain ⟨_, _⟩ := h.seq
  have hl1 := putA_len (l := [E.log, E.next, E.seq, (E.drop.length : Int)]) (by
    intro n hn
    simp only [List.mem_cons, List.not_mem_nil, or_false] at hn
    rcases hn with rfl | rfl | rfl | rfl <;> omega)
  have hl2 := putA_len h.drop
  have hl3 := putP_all h.add
  have hl4 := putV_len (n := (E.add.length : Int)) (by omega) (by omega)
  unfold putE
  simp only [List.length_append, List.length_cons, List.length_nil] at *
  omega
set_option maxRecDepth 100000 in
set_option maxHeartbeats 4000000 in
theorem ma_framed (n : Int) (h0 : -9223372036854775808 ≤ n) (h1 : n ≤ 9223372036854775807) (l : List EdX) (v : Value) (w : World) (ht : Tab w) (hv : Lst edC w v l) (hE : EdsIn w l) (hl : l.length ≤ 1000000) :
    Calls Tryz.prog 252 #[.int .i64 n, v] w fun e w' => e = .returned (.tuple #[.string (framedV n (l.map (·.E))).1, .string (framedV n (l.map (·.E))).2.1, .int .i64 (framedV n (l.map (·.E))).2.2]) ∧ Chg (fun _ => False) w w' := by
  obtain ⟨a, cap, rfl, hlc, _, hr⟩ := hv.form edOk
  have hfile := wal_file kindB n (by decide) h0 h1 w ht
  have HF := Lib.hid hfile
  have HR := Lib.hid hr
  have HE := Lib.hid hE
  clear hfile hr hE hv ht
  go_enter Tryz.func252, Tryz.ntmps252
  go_wp2_with fail
  refine HF.out.mono ?_
  rintro e w1 ⟨rfl, hc1⟩
  obtain ⟨nm, hnm⟩ : ∃ nm, fileB kindB n = nm := ⟨_, rfl⟩
  have hfv : framedV n (l.map (·.E)) = if nm.toList.isEmpty then (⟨#[]⟩, ⟨#[]⟩, 2) else if fitsB (l.map (·.E)) then (nm, framesB (l.map (·.E)), 0) else (⟨#[]⟩, ⟨#[]⟩, 5) := by rw [← hnm]; rfl
  have HFV := Lib.hid hfv
  have HC1 := Lib.hid hc1
  rw [hnm]
  clear hfv hnm hc1
  cases hem : nm.toList.isEmpty
  case true =>
    go_wp2_with fail
    refine bodyPost_ret (v := .tuple #[.string ⟨#[]⟩, .string ⟨#[]⟩, .int .i64 2]) (by simp [results, Tryz.results252, go_sem]) rfl ⟨?_, HC1.out⟩
    have := HFV.out
    rw [hem] at this
    rw [this]
    rfl
  case false =>
  go_wp2_with fail
  go_loopw [4, 5, 17] (fun nv s i wr => ∃ k : Nat, nv = .string nm ∧ s = .string (framesB ((l.take k).map (·.E))) ∧ i = .int .i64 (k : Int) ∧ k ≤ l.length ∧ fitsB ((l.take k).map (·.E)) = true ∧ Chg (fun _ => False) w1 wr) (fun _ _ i _ => l.length - (intOf i).toNat)
  case atStart => exact ⟨0, rfl, rfl, rfl, Nat.zero_le _, rfl, Chg.refl _ _⟩
  case round =>
    obtain ⟨k, rfl, rfl, rfl, hk, hfit, hc⟩ := hrel
    obtain ⟨F, hF⟩ : ∃ F, framesB ((l.take k).map (·.E)) = F := ⟨_, rfl⟩
    rw [hF]
    by_cases hlt : k < l.length
    · obtain ⟨x, hx, hA, hB, hC, _⟩ := split_at hlt
      obtain ⟨b, rfl, hb, _, hcell⟩ := HR.out _ _ _ hA
      have hcw := HC1.out.then hc
      have x0 := (hcw.cell (p := ⟨b, _, none⟩) hb (by simp)).trans (hcell 0 _ rfl)
      have x1 := (hcw.cell (p := ⟨b, _, none⟩) hb (by simp)).trans (hcell 1 _ rfl)
      have x2 := (hcw.cell (p := ⟨b, _, none⟩) hb (by simp)).trans (hcell 2 _ rfl)
      have x3 := (hcw.cell (p := ⟨b, _, none⟩) hb (by simp)).trans (hcell 3 _ rfl)
      have x4 := (hcw.cell (p := ⟨b, _, none⟩) hb (by simp)).trans (hcell 4 _ rfl)
      rw [hB] at x0 x1 x2 x3 x4
      simp only [edC, Nat.add_zero] at x0 x1 x2 x3 x4
      have hq : decide ((k : Int) < (l.length : Int)) = true := by simp; omega
      obtain ⟨hxa, hxd, hxf⟩ := HE.out x (List.mem_of_getElem? hx)
      have hput := fun W (hW : Chg (fun _ => False) wr W) => ve_put x.E x.add x.drop W hxf (hxa.same (hcw.then hW)) (hxd.same (hcw.then hW))
      have hsz := framesB_size _ hfit
      rw [hF] at hsz
      simp only [List.length_map, List.length_take] at hsz
      have HFF := Lib.hid hF
      have HP := Lib.hid hput
      have HPZ := Lib.hid (putE_size hxf)
      have HSZ := Lib.hid hsz
      have HFT := Lib.hid hfit
      have HCW := Lib.hid hc
      have HTK := Lib.hid hC
      have HX := Lib.hid hx
      have hlt2 := Nat.lt_of_lt_of_le hb hcw.size
      clear hput hsz hfit hc hC hx hF hcell hA hB hcw hxa hxd hxf
      obtain ⟨⟨al, dl, xl, xn, xs⟩, aa, an, ac, da, dn, dc⟩ := x
      simp only at x0 x1 x2 x3 x4
      go_wp2_with fail
      refine (HP.out _ cgS).mono ?_
      rintro e w3 ⟨rfl, hc3⟩
      obtain ⟨b1, hb1⟩ : ∃ b1 : ByteArray, (⟨(putE ⟨al, dl, xl, xn, xs⟩).toArray⟩ : ByteArray) = b1 := ⟨_, rfl⟩
      have hb1l : b1.data.toList = putE ⟨al, dl, xl, xn, xs⟩ := by rw [← hb1]
      have hb1s : b1.size = (putE ⟨al, dl, xl, xn, xs⟩).length := by rw [← hb1]; rfl
      have hc3' : Chg (fun _ => False) wr w3 := Chg.then cgS hc3
      have HC3 := Lib.hid hc3'
      have HBL := Lib.hid hb1l
      have HBS := Lib.hid hb1s
      rw [hb1]
      clear hc3 hc3' hb1 hb1l hb1s HP
      have hnext : (l.take (k + 1)).map (·.E) = (l.take k).map (·.E) ++ [⟨al, dl, xl, xn, xs⟩] := by rw [HTK.out, List.map_append]; rfl
      have HNX := Lib.hid hnext
      clear hnext
      by_cases hs : b1.size ≤ 65535
      · have hfr := fra_put b1 w3 hs
        have HFR := Lib.hid hfr
        clear hfr
        go_wp2_with fail
        refine HFR.out.mono ?_
        rintro e w4 ⟨⟨t, hts, rfl⟩, hc4⟩
        have HC4 := Lib.hid (HC3.out.then hc4)
        rw [HBL.out] at hts
        have hsn := framesB_snoc ((l.take k).map (·.E)) ⟨al, dl, xl, xn, xs⟩ t hts
        rw [HFF.out] at hsn
        have hts2 : t.size = 8 + b1.size := by
          have := congrArg List.length hts
          rw [fraB_len, ← HBL.out] at this
          rw [Array.length_toList, Array.length_toList] at this
          exact this
        have hfn : fitsB ((l.take k).map (·.E) ++ [⟨al, dl, xl, xn, xs⟩]) = true := by
          rw [fitsB_snoc, HFT.out]
          have := HBS.out
          rw [decide_eq_true (by omega)]
          rfl
        have hz := HSZ.out
        have HSN := Lib.hid hsn
        have HFN := Lib.hid hfn
        have hi := IntWalk.i64_in ((k : Int) + 1) (by omega)
        have hmx : F.size + t.size ≤ 9223372036854775807 := by
          have : min k l.length ≤ 1000000 := by omega
          have : min k l.length * 65543 ≤ 1000000 * 65543 := Nat.mul_le_mul_right _ this
          omega
        clear hc4 hts hsn hfn hz
        go_wp2_with fail
        go_roundw
        case rel => exact ⟨k + 1, rfl, by rw [HNX.out, HSN.out], by go_num, by omega, by rw [HNX.out]; exact HFN.out, HCW.out.then HC4.out⟩
        case measure => simp [intOf]; omega
      · have hfr := fra_put_no b1 w3 (by have := HPZ.out; have := HBS.out; omega) (by omega)
        have HFR := Lib.hid hfr
        clear hfr
        go_wp2_with fail
        refine HFR.out.mono ?_
        rintro e w4 ⟨rfl, rfl⟩
        go_wp2_with fail
        refine bodyPost_ret (v := .tuple #[.string ⟨#[]⟩, .string ⟨#[]⟩, .int .i64 5]) (by simp [results, Tryz.results252, go_sem]) rfl ⟨?_, HC1.out.then (HCW.out.then HC3.out)⟩
        have hno : fitsB (l.map (·.E)) = false := by
          rw [Bool.eq_false_iff]
          intro hall
          have := List.all_eq_true.1 hall ⟨al, dl, xl, xn, xs⟩ (List.mem_map.2 ⟨_, List.mem_of_getElem? HX.out, rfl⟩)
          have h2 := HBS.out
          simp at this
          omega
        have := HFV.out
        rw [hem, hno] at this
        rw [this]
        rfl
    · have hke : k = l.length := by omega
      subst hke
      have hq : decide ((l.length : Int) < (l.length : Int)) = false := by simp
      rw [List.take_length] at hfit
      rw [List.take_length] at hF
      have HFT := Lib.hid hfit
      have HFF := Lib.hid hF
      have HC := Lib.hid hc
      clear hfit hc hF
      go_wp2_with fail
      have := HFV.out
      rw [hem, HFT.out] at this
      rw [this]
      refine bodyPost_ret (v := .tuple #[.string nm, .string F, .int .i64 0]) (by simp [results, Tryz.results252, go_sem]) rfl ⟨by rw [← HFF.out]; rfl, HC1.out.then HC.out⟩
end Go.Proofs.YtljabmkmngbhkaaGreatDoor
namespace Go.Proofs.YtljabmkmngbhkaaGreatDoor
open Go.RowKit
set_option linter.unusedVariables false
set_option linter.unusedSimpArgs false

def I64 (x : Int) : Prop := -9223372036854775808 ≤ x ∧ x ≤ 9223372036854775807
theorem ikey_law : Go.Maps.Keyed Tryz.prog 2 := Go.Maps.int_keyed Tryz.underlying2
theorem ikey_of {x : Int} (h : I64 x) : ∃ l, keyOf Tryz.prog 2 (.int .i64 x) = some l := by
  have h1 : decide (1 ≤ Tryz.prog.types.size) = true := by kernel_rfl
  obtain ⟨n, hn⟩ := Nat.exists_eq_add_of_le (of_decide_eq_true h1)
  unfold keyOf
  rw [Tryz.underlying2]
  refine ⟨.int .i64 x, ?_⟩
  obtain ⟨h2, h3⟩ := h
  have hw : (Lit.int .i64 x).wf = true := by
    simp [Lit.wf, IntKind.min, IntKind.max, IntKind.signed, IntKind.bits]; omega
  simp [mapKey, Tryz.underlying2, hw]
theorem zero_int (w : World) : (zeroValue 3).run Tryz.prog w = .ok (.int .i64 0) w := by kernel_rfl
/-- A map that counts. -/
def cntF (c : Int → Nat) : Value → Option Value := fun v => match v with | .int .i64 x => if c x = 0 then none else some (.int .i64 (c x : Int)) | _ => none
def CntAt (w : World) (b : Nat) (c : Int → Nat) : Prop := ∃ n, MapAt Tryz.prog 2 w b n (cntF c)
theorem cntF_getD (c : Int → Nat) (x : Int) : ((cntF c) (.int .i64 x)).getD (.int .i64 0) = .int .i64 (c x : Int) := by
  unfold cntF
  by_cases h : c x = 0
  · simp [h]
  · simp [h]
section
variable {w w' : World} {b : Nat} {c : Int → Nat} {x : Int}
theorem CntAt.new (w : World) : CntAt (w.alloc (.map #[] 0)) w.heap.size fun _ => 0 := by
  refine ⟨0, ?_⟩
  have : cntF (fun _ => 0) = fun _ => none := by
    funext v; cases v with
    | int k y => cases k <;> simp [cntF]
    | _ => rfl
  rw [this]
  exact MapAt.new _ _ w
theorem CntAt.chg {S : Nat → Prop} (h : CntAt w b c) (hc : Chg S w w') (hS : ¬ S b) : CntAt w' b c := h.imp fun n hn => hn.chg hc hS
theorem CntAt.same (h : CntAt w b c) (hc : Chg (fun _ => False) w w') : CntAt w' b c := h.chg hc (by simp)
theorem CntAt.lt (h : CntAt w b c) : b < w.heap.size := by obtain ⟨n, hn⟩ := h; exact hn.lt
theorem CntAt.look (h : CntAt w b c) (hx : I64 x) : (Instr.lookup 259 (.map (some b)) (.int .i64 x) false).run Tryz.prog w = .ok (.int .i64 (c x : Int)) w := by
  obtain ⟨n, hn⟩ := h
  obtain ⟨l, hl⟩ := ikey_of hx
  have := hn.look ikey_law Tryz.underlying259 (zero_int w) hl false
  rw [cntF_getD] at this
  exact this
theorem CntAt.ne_ {g : Nat} {t : TypeId} {cs : Array Value} (h : CntAt w b c) (h' : Blk w g t cs) : b ≠ g := by
  obtain ⟨n, hn⟩ := h
  exact fun e => h'.ne_map hn e.symm
end
/-! ### A version under way -/
def setL (L : Nat → Value) (i : Nat) (v : Value) : Nat → Value := fun j => if j = i then v else L j
structure OutAt (w : World) (g base : Nat) (L : Nat → Value) (f : Nat → List MetaV) (log next seq : Int) : Prop where
  blk : Blk w g 62 #[L 0, L 1, L 2, L 3, .int .i64 log, .int .i64 next, .int .i64 seq]
  at_ : VerAt w L f
  far : Far L
  new : ∀ i, i < 4 → ∀ b, (L i).ownBlock = some b → base ≤ b
section
variable {w w' w4 : World} {g base : Nat} {L : Nat → Value} {f : Nat → List MetaV} {log next seq : Int}
theorem OutAt.same (h : OutAt w g base L f log next seq) (hc : Chg (fun _ => False) w w') : OutAt w' g base L f log next seq :=
  ⟨h.blk.chg hc (by simp), h.at_.same hc, h.far, h.new⟩
theorem OutAt.cell (h : OutAt w g base L f log next seq) {i : Nat} (hi : i < 4) : w.cell? ⟨g, i, none⟩ = some (L i) := by
  have := h.blk.cell i
  match i, hi with
  | 0, _ => simpa using this
  | 1, _ => simpa using this
  | 2, _ => simpa using this
  | 3, _ => simpa using this
theorem OutAt.ne_ (h : OutAt w g base L f log next seq) {i : Nat} (hi : i < 4) : (L i).ownBlock ≠ some g := fun e => by
  obtain ⟨cs, hb⟩ := (h.at_ i hi).typed e
  exact hb.ne_ h.blk (by decide) rfl
/-- A table was appended to a level. -/
theorem OutAt.push (h : OutAt w g base L f log next seq) {i : Nat} (hi : i < 4) {x : MetaV} {v' : Value} (hbase : base ≤ w.heap.size) (hO : Lst metaC w4 v' (f i ++ [x])) (hc : Chg (fun k => (L i).ownBlock = some k) w w4) (hk : ∀ k, v'.ownBlock = some k → (L i).ownBlock = some k ∨ w.heap.size ≤ k) :
    OutAt (w4.setCell ⟨g, i, none⟩ v') g base (setL L i v') (setLv f i (f i ++ [x])) log next seq ∧ Chg (fun k => k = g ∨ (L i).ownBlock = some k) w (w4.setCell ⟨g, i, none⟩ v') := by
  have hne := h.ne_ hi
  have hb4 := h.blk.chg hc hne
  have hset : Chg (fun k => k = g) w4 (w4.setCell ⟨g, i, none⟩ v') := Chg.setCell (S := fun k => k = g) (Chg.refl _ w4) (p := ⟨g, i, none⟩) (fun _ => rfl) v'
  have hne' : v'.ownBlock ≠ some g := fun e => by
    obtain ⟨cs, hb⟩ := hO.typed e
    exact hb.ne_ hb4 (by decide) rfl
  refine ⟨⟨?_, fun j hj => ?_, fun a b k ha hb hab h1 h2 => ?_, fun j hj b hb => ?_⟩, ?_⟩
  · have := hb4.set_ i v'
    match i, hi with
    | 0, _ => simpa [setL] using this
    | 1, _ => simpa [setL] using this
    | 2, _ => simpa [setL] using this
    | 3, _ => simpa [setL] using this
  · unfold setL setLv
    by_cases e : j = i
    · subst e
      rw [if_pos rfl, if_pos rfl]
      exact hO.chg hset fun k hk' e => hne' (by rw [← e]; exact hk')
    · rw [if_neg e, if_neg e]
      exact ((h.at_ j hj).chg hc fun k hk' e' => h.far j i k hj hi e hk' e').chg hset fun k hk' e' => h.ne_ hj (by rw [← e']; exact hk')
  · have lt : ∀ c, c < 4 → ∀ k, (L c).ownBlock = some k → k < w.heap.size := fun c hc' k hk' => (h.at_ c hc').lt hk'
    unfold setL at h1 h2
    by_cases ea : a = i
    · have eb : b ≠ i := fun e => hab (by rw [ea, e])
      rw [if_pos ea] at h1
      rw [if_neg eb] at h2
      rcases hk k h1 with e | e
      · exact h.far i b k hi hb (fun e => eb e.symm) e h2
      · have := lt b hb k h2; omega
    · rw [if_neg ea] at h1
      by_cases eb : b = i
      · rw [if_pos eb] at h2
        rcases hk k h2 with e | e
        · exact h.far a i k ha hi ea h1 e
        · have := lt a ha k h1; omega
      · rw [if_neg eb] at h2
        exact h.far a b k ha hb hab h1 h2
  · unfold setL at hb
    by_cases e : j = i
    · rw [if_pos e] at hb
      rcases hk b hb with e' | e'
      · exact h.new i hi b e'
      · omega
    · rw [if_neg e] at hb
      exact h.new j hj b hb
  · exact (hc.mono fun k _ hk' => .inr hk').trans hset fun k _ e => .inl e
end
/-- Bounds of the numbers in an edit: those of the type. -/
structure EdOk (E : EditV) : Prop where
  drop : ∀ x ∈ E.drop, I64 x
  add : ∀ p ∈ E.add, I64 p.m.file
end Go.Proofs.YtljabmkmngbhkaaGreatDoor
namespace Go.Proofs.YtljabmkmngbhkaaGreatDoor
open Go.RowKit
set_option linter.unusedVariables false
set_option linter.unusedSimpArgs false

end Go.Proofs.YtljabmkmngbhkaaGreatDoor
namespace Go.Proofs.YtljabmkmngbhkaaGreatDoor
open Go.RowKit
set_option linter.unusedVariables false
set_option linter.unusedSimpArgs false

end Go.Proofs.YtljabmkmngbhkaaGreatDoor
namespace Go.Proofs.YtljabmkmngbhkaaGreatDoor
open Go.RowKit
set_option linter.unusedVariables false
set_option linter.unusedSimpArgs false

end Go.Proofs.YtljabmkmngbhkaaGreatDoor
namespace Go.Proofs.YtljabmkmngbhkaaGreatDoor
open Go.RowKit
set_option linter.unusedVariables false
set_option linter.unusedSimpArgs false

end Go.Proofs.YtljabmkmngbhkaaGreatDoor
namespace Go.Proofs.YtljabmkmngbhkaaGreatDoor
open Go.RowKit
set_option linter.unusedVariables false
set_option linter.unusedSimpArgs false

end Go.Proofs.YtljabmkmngbhkaaGreatDoor
namespace Go.Proofs.YtljabmkmngbhkaaGreatDoor
open Go.RowKit
set_option linter.unusedVariables false
set_option linter.unusedSimpArgs false

end Go.Proofs.YtljabmkmngbhkaaGreatDoor
namespace Go.Proofs.YtljabmkmngbhkaaGreatDoor
open Go.RowKit
end Go.Proofs.YtljabmkmngbhkaaGreatDoor
namespace Go.Proofs.YtljabmkmngbhkaaGreatDoor
open Go.RowKit
set_option linter.unusedVariables false
set_option linter.unusedSimpArgs false

def Lv (a b c d : Value) : Nat → Value
  | 0 => a
  | 1 => b
  | 2 => c
  | _ => d
structure EdFine (E : EditV) : Prop where
  ok : EdOk E
  nx : I64 E.next
  add : E.add.length ≤ 1048576
  drop : E.drop.length ≤ 1048576
/-- What holds of every version. -/
structure Fine (S : VerV) : Prop where
  good : Good S
  nx : I64 S.next
  size : ∀ i, i < 4 → ∀ m ∈ S.lv i, 0 ≤ m.size
  log0 : 0 ≤ S.log
  next0 : 0 ≤ S.next
  seq0 : 0 ≤ S.seq
theorem Fine.none : Fine VerV.none := ⟨Good.none, by simp [I64, VerV.none], by simp [VerV.none], by simp [VerV.none], by simp [VerV.none], by simp [VerV.none]⟩
theorem Fine.next {S : VerV} {E : EditV} (h : Fine S) (ho : okV S E) (hn : I64 E.next) : Fine (nextV S E) := by
  have hnums := ho.1.1
  refine ⟨h.good.next ho, hn, fun i hi m hm => ?_, ?_, ?_, ?_⟩
  · rcases List.mem_append.1 ((next_perm S E i).mem_iff.1 hm) with hm | hm
    · exact h.size i hi m (List.mem_filter.1 hm).1
    · obtain ⟨p, hp, rfl⟩ := List.mem_map.1 hm
      exact (ho.2.2.1.1 p (List.mem_filter.1 hp).1).1.2.2.2.2.1
  · have := h.log0; show 0 ≤ E.log; omega
  · have := h.next0; show 0 ≤ E.next; omega
  · have := h.seq0; show 0 ≤ E.seq; omega
theorem lv_len (S : VerV) (i : Nat) (hi : i < 4) : (S.lv i).length ≤ (flat S).length := by
  unfold flat atLevel
  simp only [List.length_append, List.length_map]
  match i, hi with
  | 0, _ => omega
  | 1, _ => omega
  | 2, _ => omega
  | 3, _ => omega
/-! ### Apply, by an edit that can be and by one that can't -/
end Go.Proofs.YtljabmkmngbhkaaGreatDoor

namespace Go.Proofs.YtljabmkmngbhkaaGreatDoor
open Go.RowKit
set_option linter.unusedVariables false
set_option linter.unusedSimpArgs false

end Go.Proofs.YtljabmkmngbhkaaGreatDoor
namespace Go.Proofs.YtljabmkmngbhkaaGreatDoor
open Go.RowKit
set_option linter.unusedVariables false
set_option linter.unusedSimpArgs false

/-- The levels from k on, as the document's list. -/
def tlF (f : Nat → List MetaV) : Nat → List PlaceV
  | 0 => flatF f
  | 1 => atLevel 1 (f 1) ++ (atLevel 2 (f 2) ++ atLevel 3 (f 3))
  | 2 => atLevel 2 (f 2) ++ atLevel 3 (f 3)
  | 3 => atLevel 3 (f 3)
  | _ => []
theorem tlF_step (f : Nat → List MetaV) {k : Nat} (hk : k < 4) : tlF f k = atLevel k (f k) ++ tlF f (k + 1) := by
  match k, hk with
  | 0, _ => rfl
  | 1, _ => rfl
  | 2, _ => rfl
  | 3, _ => simp [tlF]
end Go.Proofs.YtljabmkmngbhkaaGreatDoor
