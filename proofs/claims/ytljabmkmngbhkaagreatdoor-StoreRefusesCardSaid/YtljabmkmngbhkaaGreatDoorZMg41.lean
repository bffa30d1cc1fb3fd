/-
  A fresh disk of the law's two sizes: what load finds there. Plain; no condition.
  The states of the law's fixed store. Plain; no condition.
-/
import Derived.Test.YtljabmkmngbhkaaGreatDoorZStoH
namespace Go.Proofs.YtljabmkmngbhkaaGreatDoor
open Go.RowKit
set_option linter.unusedVariables false
set_option linter.unusedSimpArgs false

def nm0 : ByteArray := ⟨#[109, 97, 110, 105, 102, 101, 115, 116, 45, 48, 48, 48, 48, 48, 48, 48, 48]⟩
def b01 : List UInt8 := [2, 4, 0, 0, 0]
def E01 : EditV := ⟨[], [], 1, 2, 0⟩
theorem puts0 : putE E01 = b01 := by decide +kernel
theorem file0 : fileB kindB 0 = nm0 := by decide +kernel
theorem framed0 : framedV 0 (partsV V1) = (nm0, ⟨(fraB b01).toArray⟩, 0) := by
  have e : partsV V1 = [E01] := rfl
  rw [e]
  unfold framedV
  rw [file0, if_neg (by decide +kernel), if_pos (by simp [fitsB, puts0]; decide)]
  simp [framesB, puts0]
def start0 (D : DiskV) : Int × DiskV := andV (createM D nm0 ⟨(fraB b01).toArray⟩) fun D1 => andV (syncDirD D1) fun D2 =>
  andV (if hasTx (namesL D) nextB then removeD D2 nextB else (0, D2)) fun D3 =>
  andV (createM D3 nextB (toldB nm0)) fun D4 => andV (renameD D4 nextB curB) syncDirD
theorem start0_eq (D : DiskV) : startM D 0 V1 = start0 D := by
  unfold startM
  rw [framed0]
  rfl
theorem psm_start0 {m : Nat} {D : DiskV} (n : Int) (S : VerV) (h : PSm m D) : PSm (m + 10) (startM D n S).2 := by
  unfold startM
  split
  · exact h.by_ (by omega)
  have h1 := psm_make (framedV n (partsV S)).1 (framedV n (partsV S)).2.1 h
  refine psm_and (m := m + 3) (k := 7) h1 ?_
  have h2 := p_bsm_syncdir h1
  refine psm_and (m := m + 3 + 1) (k := 6) h2 ?_
  have h3 : PSm (m + 3 + 1 + 1) (if hasTx (namesL D) nextB then removeD (syncDirD (createM D (framedV n (partsV S)).1 (framedV n (partsV S)).2.1).2).2 nextB else (0, (syncDirD (createM D (framedV n (partsV S)).1 (framedV n (partsV S)).2.1).2).2)).2 := by
    split
    · exact p_bsm_remove _ h2
    · exact h2.by_ (by omega)
  refine psm_and (m := m + 3 + 1 + 1) (k := 5) h3 ?_
  have h4 := psm_make nextB (toldB (framedV n (partsV S)).1) h3
  refine psm_and (m := m + 3 + 1 + 1 + 3) (k := 2) h4 ?_
  have h5 := psm_rename nextB curB h4
  exact psm_and (m := m + 3 + 1 + 1 + 3 + 1) (k := 1) h5 (p_bsm_syncdir h5)
theorem psm_clean0L (need : ByteArray → Bool) : ∀ (l : List ByteArray) {m : Nat} {D : DiskV} (b : Bool), PSm m D → PSm (m + l.length + 1) (cleanL need l D b).2
  | [], m, D, b, h => by
    unfold cleanL
    cases b
    · exact h.by_ (by simp)
    · exact (p_bsm_syncdir h).by_ (by simp)
  | n :: r, m, D, b, h => by
    rw [cleanL]
    have h1 := p_bsm_remove n h
    split
    · exact (psm_clean0L need r b h).by_ (by simp only [List.length_cons]; omega)
    split
    · exact h1.by_ (by simp)
    · exact (psm_clean0L need r true h1).by_ (by simp only [List.length_cons]; omega)
theorem psm_clean0 (need : ByteArray → Bool) {m : Nat} {D : DiskV} (h : PSm m D) : PSm (3 * m + 1) (cleanM need D).2 := by
  have := h.n
  have hl : (namesL D).length = D.names.length := by simp [namesL]
  exact (psm_clean0L need (namesL D) false h).by_ (by omega)
def room1 : Int := 1048576
def room2 : Int := 1099511627776
def dk1 (R : Int) : DiskV := (createW (startD R) (logN 1)).2
def dk2 (R : Int) : DiskV := (start0 (dk1 R)).2
theorem fresh_res (R : Int) (h : R = room1 ∨ R = room2) : (readD (startD R) curB).2 = 10 ∧ hasTx (namesL (startD R)) curB = false ∧ (createW (startD R) (logN 1)).1 = 0 ∧ (start0 (dk1 R)).1 = 0 ∧ (cleanM needB (dk2 R)).1 = 0 := by
  rcases h with rfl | rfl <;> (refine ⟨?_, ?_, ?_, ?_, ?_⟩ <;> decide +kernel)
theorem fresh (R : Int) (h : R = room1 ∨ R = room2) : FreshD (startD R) := by
  obtain ⟨h1, h2, h3, h4, h5⟩ := fresh_res R h
  have p0 := (p_bsm_start R).by_ (k := 900) (by omega)
  have p2 : PSm 902 (dk1 R) := psm_create _ p0
  have p3 : PSm 912 (ldC (startD R)).2 := psm_start0 0 V1 p2
  have e : (ldC (startD R)).2 = dk2 R := by
    show (startM (dk1 R) 0 V1).2 = _
    rw [start0_eq]
    rfl
  exact { r := h1, n := h2, a := rfl, b := h3
          c := by show (startM (dk1 R) 0 V1).1 = 0; rw [start0_eq]; exact h4
          d := by show (cleanM needB (ldC (startD R)).2).1 = 0; rw [e]; exact h5
          p0 := p0.by_ (by omega), p1 := p0.by_ (by omega), p2 := p2.by_ (by omega), p3 := p3.by_ (by omega) }
end Go.Proofs.YtljabmkmngbhkaaGreatDoor
namespace Go.Proofs.YtljabmkmngbhkaaGreatDoor
open Go.RowKit
set_option linter.unusedVariables false
set_option linter.unusedSimpArgs false

def newS (D : DiskV) (li : Int) : StV := { D := D, B := Bud.start li, L := [], size := 0, log := 0, next := 0, vseq := 0, man := 0, told := 0, snaps := [], now := 0, seq := 0, dead := false, closed := false, done := 0 }
def kA : ByteArray := ⟨#[97]⟩
def kB : ByteArray := ⟨#[98]⟩
def t1 : ByteArray := ⟨#[49]⟩
def t2 : ByteArray := ⟨#[50]⟩
def wi1 : List EntryV := [⟨kA, 0, false, t1, 0⟩, ⟨kB, 0, false, t2, 0⟩]
def wi2 : List EntryV := [⟨kA, 0, true, ⟨#[]⟩, 0⟩]
/-- load leaves the disk so. -/
def dk3 (R : Int) : DiskV := (cleanM needB (dk2 R)).2
theorem load_disk (R : Int) : (ldD (startD R)).2 = dk3 R := by
  have e : (ldC (startD R)).2 = dk2 R := by
    show (startM (dk1 R) 0 V1).2 = _
    rw [start0_eq]
    rfl
  show (cleanM needB (ldC (startD R)).2).2 = _
  rw [e]
  rfl
def ws0 : StV := { D := dk3 room1, B := ((Bud.start 1048576).change 0 0).2, L := [], size := 0, log := 1, next := 2, vseq := 0, man := 0, told := 0, snaps := [], now := 0, seq := 0, dead := false, closed := false, done := 0 }
theorem ws0_eq : loadS (newS (startD room1) 1048576) = ws0 := by
  have e := load_disk room1
  unfold loadS forgetS newS ws0
  simp only
  rw [e]
def ws1 : StV := commitS ws0 1 wi1
def ws2 : StV := snapS ws1
def ws3 : StV := commitS ws2 1 wi2
def gone3 : EntryV := ⟨kA, 3, true, ⟨#[]⟩, 0⟩
def then1 : EntryV := ⟨kA, 1, false, t1, 0⟩
set_option maxRecDepth 100000 in
theorem wi_log : (logD ws0 1 wi1).1 = 0 ∧ (logD ws2 1 wi2).1 = 0 := by
  constructor <;> decide +kernel
set_option maxRecDepth 100000 in
theorem wi_get : getL ws3.L kA 9223372036854775807 = (gone3, true) ∧ getL ws3.L kA 2 = (then1, true) := by
  constructor <;> kernel_rfl
theorem wi_alive : gotE gone3 0 = (zeroE, false) ∧ gotE then1 0 = (then1, true) := by
  constructor <;> rfl
theorem wi_good1 : ∀ e ∈ wi1, goodI e = 0 ∧ EntFit e := by
  intro e he
  rcases List.mem_cons.1 he with rfl | he
  · exact ⟨by decide, ⟨by decide, by decide, by decide, by decide⟩⟩
  · rcases List.mem_cons.1 he with rfl | he
    · exact ⟨by decide, ⟨by decide, by decide, by decide, by decide⟩⟩
    · cases he
theorem wi_good2 : ∀ e ∈ wi2, goodI e = 0 ∧ EntFit e := by
  intro e he
  rcases List.mem_cons.1 he with rfl | he
  · exact ⟨by decide, ⟨by decide, by decide, by decide, by decide⟩⟩
  · cases he
theorem wi_room : costI wi1 + ws0.size ≤ roomS ⟨1048576, 1000, 10, 10, 100, 0, 0, 0⟩ ws0 ∧ costI wi1 ≤ ws0.B.l - ws0.B.u ∧ costI wi2 + ws2.size ≤ roomS ⟨1048576, 1000, 10, 10, 100, 0, 0, 0⟩ ws2 ∧ costI wi2 ≤ ws2.B.l - ws2.B.u := by
  refine ⟨?_, ?_, ?_, ?_⟩ <;> decide
theorem ws_psm : PSm 1000 ws0.D ∧ PSm 1002 ws2.D := by
  have p2 : PSm 2 (dk1 room1) := psm_create _ (p_bsm_start room1)
  have p3 : PSm 12 (startM (dk1 room1) 0 V1).2 := psm_start0 0 V1 p2
  rw [start0_eq] at p3
  have p : PSm 1000 ws0.D := (psm_clean0 needB p3).by_ (by omega)
  exact ⟨p, psm_append _ _ p⟩
end Go.Proofs.YtljabmkmngbhkaaGreatDoor
