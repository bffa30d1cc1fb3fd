/-
  The program's logs: Append.
  The program's logs: Read.
  The laws' fixed log.
  Names of files of a kind and a number: plain facts about lists of bytes. Plain Lean; no program; no condition.
  Names of files of every kind and number: the program's File, the document's.
  Names of files: the document's File.
  Names of files: both Numbers; the walk of WalNames.
  A world in which the library's listed tables and errors are laid; what a row's list gives: the table of powers of ten. Plain lemmas; no condition.
  A slice of structs with a string among the fields, with the form's own reach: plain lemmas over whatever law; no condition.
  An argument that is a struct of one-cell fields, with the form's own reach: plain lemmas; no condition.
  Small lemmas of general use: a cell behind what happens elsewhere, strings joined, one byte as a string. Plain laws over the program; no condition.
  Append of several elements that lie in a new slice: laws over every element type. Plain laws over the program; no condition.
  The plain model of a version: tables in four levels, edits, what an edit makes of a version; and of the document's version: one list. Plain Lean over lists; no program; no condition.
  Entries in order, and the towers of a skip list: plain Lean over lists; no program; no condition.
  The search in a skip list, floor by floor; how high the next tower is: plain Lean; no program; no condition.
-/
import Derived.Test.YtljabmkmngbhkaaGreatDoorZMg12
import Derived.Test.YtljabmkmngbhkaaGreatDoorZMg00
import Derived.Lib.SlTrimSet
import Derived.Lib.ItoaNum
import Derived.Lib.Repeat
import Derived.Lib.ParseIntB
import Derived.Lib.Strings
import Derived.Test.YtljabmkmngbhkaaGreatDoorZMg10
import Derived.Lib.AppendIntMem
import Derived.Stop.LaidErr
import Derived.Deep.QuietTactic
import Derived.BigQuiet
import Derived.Laws.Strings
import Derived.Lib.ParseIntBTie
import Derived.Test.YtljabmkmngbhkaaGreatDoorCards
import Derived.Test.YtljabmkmngbhkaaGreatDoorTie
import Derived.ProofKit
import Derived.OpenShut
import Derived.Deep.DeepHandedRow
import Derived.Lib.LaidTab
import Derived.LaidSub
import Derived.MakeChecks
import Derived.SizedLaws
import Derived.Test.YtljabmkmngbhkaaGreatDoorProg
import Derived.WalkKit
import Derived.WalkLawsBesides
import Derived.Sort.Walk0
namespace Go.Proofs.YtljabmkmngbhkaaGreatDoor
open Go.RowKit
set_option linter.unusedVariables false
set_option linter.unusedSimpArgs false

/-- The frame of a body, as bytes; and Put's error. -/
def fraBA (b : ByteArray) : ByteArray := ⟨(fraB b.data.toList).toArray⟩
def fputV (b : ByteArray) : ByteArray × Int := if 65535 < b.size then (⟨#[]⟩, 5) else (fraBA b, 0)
theorem fra_put_any (b : ByteArray) (w : World) (hb : b.size ≤ 140737488355328) : Calls Tryz.prog 87 #[.string b] w fun e w' => e = .returned (.tuple #[.string (fputV b).1, .int .i64 (fputV b).2]) ∧ Chg (fun _ => False) w w' := by
  by_cases h : 65535 < b.size
  · have e : fputV b = (⟨#[]⟩, 5) := by unfold fputV; rw [if_pos h]
    rw [e]
    exact (fra_put_no b w hb h).mono fun e w' ⟨he, hw⟩ => ⟨he, hw ▸ Chg.refl _ _⟩
  · have e : fputV b = (fraBA b, 0) := by unfold fputV; rw [if_neg h]
    rw [e]
    refine (fra_put b w (by omega)).mono fun e w' ⟨⟨t, ht, he⟩, hc⟩ => ⟨?_, hc⟩
    have : t = fraBA b := by
      apply ByteArray.ext
      apply Array.ext'
      rw [ht]
      rfl
    rw [he, this]
set_option maxRecDepth 100000 in
set_option maxHeartbeats 2000000 in
theorem append_n (n b t : ByteArray) (er : Int) (d bb bd : Nat) (w : World) (hp : fputV b = (t, er)) (hbs : b.size ≤ 140737488355328) (hb : Blk w bd 36 #[.pointer (some ⟨d, 0, none⟩)]) (hbb : Blk w bb 9 #[.string b]) :
    Calls Tryz.prog 86 #[.string n, .pointer (some ⟨bb, 0, none⟩), .pointer (some ⟨bd, 0, none⟩)] w fun e w' => ∃ v, e = .returned v ∧ ∃ g be bn bs, v = .slice (some ⟨g, 0, none⟩) 3 3 ∧
      Blk w' g 53 #[.func (.func 88) #[] #[.pointer (some ⟨be, 0, none⟩)], .func (.func 89) #[] #[.pointer (some ⟨bd, 0, none⟩), .pointer (some ⟨bn, 0, none⟩), .pointer (some ⟨bs, 0, none⟩)], .func (.func 91) #[] #[.pointer (some ⟨bd, 0, none⟩), .pointer (some ⟨bn, 0, none⟩)]] ∧
      Blk w' be 33 #[.int .i64 er] ∧ Blk w' bn 9 #[.string n] ∧ Blk w' bs 9 #[.string t] ∧ w.heap.size ≤ g ∧ w.heap.size ≤ be ∧ w.heap.size ≤ bn ∧ w.heap.size ≤ bs ∧ Chg (fun _ => False) w w' := by
  have hlt := hb.lt
  have hltb := hbb.lt
  have y0 := hbb.cell 0
  simp at y0
  obtain ⟨w1, hw1⟩ : ∃ w1, w1 = w.alloc (.cells #[.string n] 9) := ⟨_, rfl⟩
  have hc1 : Chg (fun _ => False) w w1 := by rw [hw1]; exact cgS
  have hbn : Blk w1 w.heap.size 9 #[.string n] := by rw [hw1]; exact Blk.new _ _ _
  have y1 : w1.cell? ⟨bb, 0, none⟩ = some (.string b) := (hbb.chg hc1 (by simp)).cell 0
  have hput := fra_put_any b w1 hbs
  rw [hp] at hput
  have HP := Lib.hid hput
  have HW1 := Lib.hid hw1
  have HC1 := Lib.hid hc1
  have HBN := Lib.hid hbn
  clear hput hb hbb hw1 hc1 hbn hp
  go_enter Tryz.func86, Tryz.ntmps86
  go_upto_region 1 with fail
  rw [← HW1.out]
  go_wp2_with fail
  refine HP.out.mono ?_
  rintro e w2 ⟨rfl, hc2⟩
  have hs2 := hc2.size
  have hs1 := HC1.out.size
  have hnl := HBN.out.lt
  have HC2 := Lib.hid hc2
  clear hc2
  go_wp2_with fail
  go_ret
  exact ⟨_, rfl, _, _, _, _, rfl, Blk.new2 w2 _ _ _ _, (Blk.new1 w2 _ _ _).alloc _, (((HBN.out.chg HC2.out (by simp)).alloc _).alloc _).alloc _, ((Blk.new w2 _ _).alloc _).alloc _, by omega, by omega, by omega, by omega, by have := HC1.out.then HC2.out; exact cgS⟩
def appendW (D : DiskV) (n b : ByteArray) : Int × DiskV := if (fputV b).2 ≠ 0 then ((fputV b).2, D) else if (appendD D n (fputV b).1).1 ≠ 0 then appendD D n (fputV b).1 else syncD (appendD D n (fputV b).1).2 n
theorem append_a (be : Nat) (er : Int) (w : World) (hb : Blk w be 33 #[.int .i64 er]) : Calls Tryz.prog 88 #[.pointer (some ⟨be, 0, none⟩)] w fun e w' => e = .returned (.int .i64 er) ∧ w = w' := by
  have x0 := hb.cell 0
  simp at x0
  clear hb
  go_enter Tryz.func88, Tryz.ntmps88
  go_wp2_with fail
  go_ret
  exact ⟨rfl, rfl⟩
set_option maxRecDepth 100000 in
set_option maxHeartbeats 2000000 in
theorem append_b (n t : ByteArray) (hn : n.size ≤ maxLen) (ht : t.size ≤ 1000000) (d bd bn bs : Nat) (D : DiskV) (Y : Nat → Prop) (w0 w : World) (hD : DSmall D) (h : DY w0 w d D Y) (hb : Blk w bd 36 #[.pointer (some ⟨d, 0, none⟩)]) (hbn : Blk w bn 9 #[.string n]) (hbs : Blk w bs 9 #[.string t]) :
    Calls Tryz.prog 89 #[.pointer (some ⟨bd, 0, none⟩), .pointer (some ⟨bn, 0, none⟩), .pointer (some ⟨bs, 0, none⟩)] w (YPost w0 w d Y (appendD D n t)) := by
  have hc := y_append w0 d D Y n hn hD w h t (by omega)
  have x0 := hb.cell 0
  have x1 := hbn.cell 0
  have x2 := hbs.cell 0
  simp at x0 x1 x2
  have HC := Lib.hid hc
  clear hc h hb hbn hbs hD
  go_enter Tryz.func89, Tryz.ntmps89
  go_wp2_with fail
  refine HC.out.mono ?_
  rintro e w1 ⟨rfl, hd⟩
  have HD := Lib.hid hd
  clear hd
  go_wp2_with fail
  go_ret
  exact ⟨rfl, HD.out⟩
set_option maxRecDepth 100000 in
set_option maxHeartbeats 2000000 in
theorem append_c (n : ByteArray) (hn : n.size ≤ maxLen) (d bd bn : Nat) (D : DiskV) (Y : Nat → Prop) (w0 w : World) (hD : DSmall D) (h : DY w0 w d D Y) (hb : Blk w bd 36 #[.pointer (some ⟨d, 0, none⟩)]) (hbn : Blk w bn 9 #[.string n]) :
    Calls Tryz.prog 91 #[.pointer (some ⟨bd, 0, none⟩), .pointer (some ⟨bn, 0, none⟩)] w (YPost w0 w d Y (syncD D n)) := by
  have hc := y_sync w0 d D Y n hn hD w h
  have x0 := hb.cell 0
  have x1 := hbn.cell 0
  simp at x0 x1
  have HC := Lib.hid hc
  clear hc h hb hbn hD
  go_enter Tryz.func91, Tryz.ntmps91
  go_wp2_with fail
  refine HC.out.mono ?_
  rintro e w1 ⟨rfl, hd⟩
  have HD := Lib.hid hd
  clear hd
  go_wp2_with fail
  go_ret
  exact ⟨rfl, HD.out⟩
theorem putV_size (b : ByteArray) : (fputV b).1.size ≤ 1000000 := by
  unfold fputV
  split
  · exact Nat.zero_le _
  · have h := fraB_len b.data.toList
    have h2 : b.data.toList.length = b.size := by rw [Array.length_toList]; rfl
    show (fraB b.data.toList).toArray.size ≤ _
    rw [List.size_toArray, h, h2]
    omega
set_option maxRecDepth 100000 in
set_option maxHeartbeats 2000000 in
theorem wal_append_g (n : Int) (nm : ByteArray) (hNE : nm.toList.isEmpty = false) (hnm : nm.size ≤ maxLen) (m : Nat) (b : ByteArray) (hbz : b.size ≤ 140737488355328) (d : Nat) (D : DiskV) (Y : Nat → Prop) (w0 w : World) (hD : PSm m D) (hm : m ≤ 10000) (h : DY w0 w d D Y) (hNM : ∀ W, Chg (fun _ => False) w W → Calls Tryz.prog 167 #[.int .i64 n] W fun e w' => e = .returned (.string nm) ∧ Chg (fun _ => False) W w') :
    Calls Tryz.prog 39 #[.pointer (some ⟨d, 0, none⟩), .int .i64 n, .string b] w (YPost w0 w d Y (appendW D nm b)) := by
  obtain ⟨w1, hw1⟩ : ∃ w1, w1 = (w.alloc (.cells #[.pointer (some ⟨d, 0, none⟩)] 36)).alloc (.cells #[.string b] 9) := ⟨_, rfl⟩
  have hc1 : Chg (fun _ => False) w w1 := by rw [hw1]; exact cgS
  have hbd : Blk w1 w.heap.size 36 #[.pointer (some ⟨d, 0, none⟩)] := by rw [hw1]; exact (Blk.new w _ _).alloc _
  have hbb : Blk w1 (w.heap.size + 1) 9 #[.string b] := by rw [hw1]; exact Blk.new1 w _ _ _
  obtain ⟨t, er, hp⟩ : ∃ t er, fputV b = (t, er) := ⟨_, _, rfl⟩
  have htz : t.size ≤ 1000000 := by have := putV_size b; rw [hp] at this; exact this
  have hW : appendW D nm b = if er ≠ 0 then (er, D) else if (appendD D nm t).1 ≠ 0 then appendD D nm t else syncD (appendD D nm t).2 nm := by unfold appendW; rw [hp]
  have hwith := wal_with_g n nm hNE 86 #[.pointer (some ⟨w.heap.size + 1, 0, none⟩), .pointer (some ⟨w.heap.size, 0, none⟩)]
    (fun v w' => ∃ g be bn bs, v = .slice (some ⟨g, 0, none⟩) 3 3 ∧
      Blk w' g 53 #[.func (.func 88) #[] #[.pointer (some ⟨be, 0, none⟩)], .func (.func 89) #[] #[.pointer (some ⟨w.heap.size, 0, none⟩), .pointer (some ⟨bn, 0, none⟩), .pointer (some ⟨bs, 0, none⟩)], .func (.func 91) #[] #[.pointer (some ⟨w.heap.size, 0, none⟩), .pointer (some ⟨bn, 0, none⟩)]] ∧
      Blk w' be 33 #[.int .i64 er] ∧ Blk w' bn 9 #[.string nm] ∧ Blk w' bs 9 #[.string t] ∧ w1.heap.size ≤ g ∧ w1.heap.size ≤ be ∧ w1.heap.size ≤ bn ∧ w1.heap.size ≤ bs ∧ Chg (fun _ => False) w1 w')
    (fun k w' => k = (appendW D nm b).1 ∧ DY w0 w' d (appendW D nm b).2 Y ∧ Kept Y w1 w') w1 (hNM w1 hc1) (enters _ _ (by kernel_rfl))
    (fun W hW => (append_n nm b t er d (w.heap.size + 1) w.heap.size W hp hbz (hbd.chg hW (by simp)) (hbb.chg hW (by simp))).mono fun e w' ⟨v, he, g, be, bn, bs, h1, h2, h3, h4, h5, h6, h7, h8, h9, h10⟩ => ⟨v, he, g, be, bn, bs, h1, h2, h3, h4, h5, Nat.le_trans hW.size h6, Nat.le_trans hW.size h7, Nat.le_trans hW.size h8, Nat.le_trans hW.size h9, hW.then h10⟩)
    (fun v w' ⟨g, be, bn, bs, hv, hg, hbe, hbn, hbs, q1, q2, q3, q4, hc⟩ => by
      subst hv
      have hY := h.grow (hc1.then hc)
      have hlg := hg.lt
      have hs1 := hc1.size
      have hbd' := hbd.chg hc (by simp)
      have hdl := hbd'.lt
      have hnl := hbn.lt
      have hsl := hbs.lt
      obtain ⟨Z, hZ⟩ : ∃ Z, (fun k => Y k ∨ (w.heap.size ≤ k ∧ k < w'.heap.size)) = Z := ⟨_, rfl⟩
      have hZY : ∀ k, Y k → Z k := fun k hk => by rw [← hZ]; exact .inl hk
      have hZn : ∀ k, w.heap.size ≤ k → k < w'.heap.size → Z k := fun k a b => by rw [← hZ]; exact .inr ⟨a, b⟩
      rw [hZ] at hY
      refine (wal_first3 g 88 89 91 #[] #[.pointer (some ⟨be, 0, none⟩)] #[] #[.pointer (some ⟨w.heap.size, 0, none⟩), .pointer (some ⟨bn, 0, none⟩), .pointer (some ⟨bs, 0, none⟩)] #[] #[.pointer (some ⟨w.heap.size, 0, none⟩), .pointer (some ⟨bn, 0, none⟩)]
        (fun k W => k = er ∧ DY w0 W d D Z ∧ Kept Z w' W)
        (fun k W => er = 0 ∧ k = (appendD D nm t).1 ∧ DY w0 W d (appendD D nm t).2 Z ∧ Kept Z w' W)
        (fun k W => er = 0 ∧ (appendD D nm t).1 = 0 ∧ k = (syncD (appendD D nm t).2 nm).1 ∧ DY w0 W d (syncD (appendD D nm t).2 nm).2 Z ∧ Kept Z w' W)
        w' hg (enters _ _ (by kernel_rfl)) (enters _ _ (by kernel_rfl)) (enters _ _ (by kernel_rfl)) ?_ ?_ ?_ ?_ ?_).mono ?_
      · exact (append_a be er w' hbe).mono fun e W ⟨he, hw⟩ => ⟨_, he, rfl, hw ▸ hY, hw ▸ Kept.refl _ _⟩
      · rintro _ W ⟨_, hd, hk⟩
        exact hg.kept hk (hZn g (by omega) hlg)
      · rintro W ⟨h0, hd, hk⟩
        exact (append_b nm t hnm htz d w.heap.size bn bs D Z w0 W (hD.small (by omega)) hd (hbd'.kept hk (hZn _ (by omega) hdl)) (hbn.kept hk (hZn _ (by omega) hnl)) (hbs.kept hk (hZn _ (by omega) hsl))).mono fun e W' ⟨he, hd', hk'⟩ => ⟨_, he, h0.symm, rfl, hd', hk.then hk'⟩
      · rintro _ W ⟨_, _, hd, hk⟩
        exact hg.kept hk (hZn g (by omega) hlg)
      · rintro W ⟨h0, h1, hd, hk⟩
        exact (append_c nm hnm d w.heap.size bn _ Z w0 W ((p_bsm_append nm t hD).small (by omega)) hd (hbd'.kept hk (hZn _ (by omega) hdl)) (hbn.kept hk (hZn _ (by omega) hnl))).mono fun e W' ⟨he, hd', hk'⟩ => ⟨_, he, h0, h1.symm, rfl, hd', hk.then hk'⟩
      · rintro e W ⟨k, he, hk⟩
        refine ⟨k, he, ?_⟩
        rw [hW]
        rcases hk with ⟨hne, rfl, hd, hkp⟩ | ⟨hne, h0, rfl, hd, hkp⟩ | ⟨h0, h1, rfl, hd, hkp⟩
        · rw [if_pos hne]
          exact ⟨rfl, hd.mono hZY, (Kept.of_chg hc).then (hkp.mono hZY)⟩
        · rw [if_neg (by rw [h0]; simp), if_pos hne]
          exact ⟨rfl, hd.mono hZY, (Kept.of_chg hc).then (hkp.mono hZY)⟩
        · rw [if_neg (by rw [h0]; simp), if_neg (by rw [h1]; simp)]
          exact ⟨rfl, hd.mono hZY, (Kept.of_chg hc).then (hkp.mono hZY)⟩)
  have HWITH := Lib.hid hwith
  have HW1 := Lib.hid hw1
  have HC1 := Lib.hid hc1
  clear hwith hw1 hc1 hbd hbb h hD hW hp
  go_enter Tryz.func39, Tryz.ntmps39
  go_upto_region 1 with fail
  rw [← HW1.out]
  go_wp2_with fail
  refine HWITH.out.mono ?_
  rintro e w2 ⟨k, rfl, rfl, hd, hk⟩
  have HD := Lib.hid hd
  have HK := Lib.hid ((Kept.of_chg HC1.out).then hk)
  clear hd hk
  go_wp2_with fail
  go_ret
  exact ⟨rfl, HD.out, HK.out⟩
theorem wal_append (n m : Nat) (hn : n < 10) (b : ByteArray) (hbz : b.size ≤ 1000000000) (d : Nat) (D : DiskV) (Y : Nat → Prop) (w0 w : World) (hD : PSm m D) (hm : m ≤ 10000) (h : DY w0 w d D Y) :
    Calls Tryz.prog 39 #[.pointer (some ⟨d, 0, none⟩), .int .i64 (n : Int), .string b] w (YPost w0 w d Y (appendW D (logN n) b)) :=
  wal_append_g (n : Int) (logN n) (logN_some n) (logN_size n) m b (by omega) d D Y w0 w hD hm h fun W _ => wal_name n hn W
end Go.Proofs.YtljabmkmngbhkaaGreatDoor
namespace Go.Proofs.YtljabmkmngbhkaaGreatDoor
open Go.RowKit
set_option linter.unusedVariables false
set_option linter.unusedSimpArgs false

end Go.Proofs.YtljabmkmngbhkaaGreatDoor
namespace Go.Proofs.YtljabmkmngbhkaaGreatDoor
open Go.RowKit
set_option linter.unusedVariables false
set_option linter.unusedSimpArgs false

theorem psm_create {m : Nat} {D : DiskV} (n : ByteArray) (h : PSm m D) : PSm (m + 2) (createW D n).2 := by
  unfold createW
  split
  · exact (p_bsm_create n h).up
  · exact p_bsm_syncdir (p_bsm_create n h)
theorem psm_append {m : Nat} {D : DiskV} (n b : ByteArray) (h : PSm m D) : PSm (m + 2) (appendW D n b).2 := by
  unfold appendW
  split
  · exact h.up.up
  split
  · exact (p_bsm_append n _ h).up
  · exact p_bsm_sync n (p_bsm_append n _ h)
end Go.Proofs.YtljabmkmngbhkaaGreatDoor
namespace Go.Proofs.YtljabmkmngbhkaaGreatDoor
set_option linter.unusedVariables false
set_option linter.unusedSimpArgs false

def lowB (b : UInt8) : Bool := decide (97 ≤ b.toNat) && decide (b.toNat ≤ 122)
def lettersL : List UInt8 := [97, 98, 99, 100, 101, 102, 103, 104, 105, 106, 107, 108, 109, 110, 111, 112, 113, 114, 115, 116, 117, 118, 119, 120, 121, 122]
theorem letters_low (b : UInt8) : lettersL.contains b = lowB b := by
  have h : ∀ n : Fin 256, lettersL.contains (UInt8.ofNat n.val) = lowB (UInt8.ofNat n.val) := by decide +kernel
  have := h ⟨b.toNat, b.toNat_lt⟩
  simpa using this
theorem dropWhile_nil {α : Type} (p : α → Bool) : ∀ l : List α, (l.dropWhile p = [] ↔ l.all p = true)
  | [] => by simp
  | x :: l => by
    rw [List.dropWhile_cons]
    by_cases h : p x = true
    · rw [if_pos h, dropWhile_nil p l]; simp [h]
    · rw [if_neg h]; simp [h]
theorem dropWhile_head {α : Type} (p : α → Bool) : ∀ l : List α, ∀ x r, l.dropWhile p = x :: r → p x = false
  | [], x, r, h => by simp at h
  | y :: l, x, r, h => by
    rw [List.dropWhile_cons] at h
    by_cases hy : p y = true
    · rw [if_pos hy] at h; exact dropWhile_head p l x r h
    · rw [if_neg hy] at h; injection h with h1 h2; subst h1; simpa using hy
/-- Nothing is left of a text of small letters alone. -/
theorem trim_low (l : List UInt8) : (Lib.trimS l lettersL = [] ↔ l.all lowB = true) := by
  have hp : (fun b => lettersL.contains b) = lowB := funext letters_low
  unfold Lib.trimS Lib.trimLeftS Lib.trimRightS
  rw [hp, dropWhile_nil]
  constructor
  · intro h
    have h1 : (l.reverse.dropWhile lowB).all lowB = true := by simpa using h
    have h2 : l.reverse.dropWhile lowB = [] := by
      cases hd : l.reverse.dropWhile lowB with
      | nil => rfl
      | cons x r =>
        have h3 := dropWhile_head lowB _ _ _ hd
        rw [hd] at h1
        simp [h3] at h1
    have h4 := (dropWhile_nil lowB _).1 h2
    simpa using h4
  · intro h
    have h1 : l.reverse.all lowB = true := by simpa using h
    rw [(dropWhile_nil lowB _).2 h1]
    rfl
def okKind (k : List UInt8) : Bool := !k.isEmpty && k.all lowB
/-- The last k digits of a number. -/
def digK : Nat → Nat → List UInt8
  | 0, _ => []
  | k + 1, n => digK k (n / 10) ++ [u8 (48 + n % 10)]
theorem digK_len : ∀ k n, (digK k n).length = k
  | 0, _ => rfl
  | k + 1, n => by simp [digK, digK_len k]
theorem digK_zero : ∀ k, digK k 0 = List.replicate k 48
  | 0 => rfl
  | k + 1 => by
    rw [digK, Nat.zero_div, digK_zero k, List.replicate_succ']
    rfl
theorem digK_pad : ∀ (k n : Nat), n < 10 ^ (k + 1) → (Lib.decDigits n).length ≤ k + 1 ∧ List.replicate (k + 1 - (Lib.decDigits n).length) 48 ++ Lib.decDigits n = digK (k + 1) n
  | k, n, h => by
    by_cases h10 : n < 10
    · have e : Lib.decDigits n = [UInt8.ofNat (48 + n)] := by rw [Lib.decDigits, dif_pos h10]
      rw [e, digK, Nat.div_eq_of_lt h10, digK_zero, Nat.mod_eq_of_lt h10]
      exact ⟨by simp, rfl⟩
    · have e : Lib.decDigits n = Lib.decDigits (n / 10) ++ [UInt8.ofNat (48 + n % 10)] := by rw [Lib.decDigits, dif_neg h10]
      obtain ⟨j, rfl⟩ : ∃ j, k = j + 1 := by
        cases k with
        | zero => simp at h; omega
        | succ j => exact ⟨j, rfl⟩
      have hd : n / 10 < 10 ^ (j + 1) := by
        rw [Nat.pow_succ] at h
        exact Nat.div_lt_of_lt_mul (by rw [Nat.mul_comm]; exact h)
      obtain ⟨h1, h2⟩ := digK_pad j (n / 10) hd
      rw [e, List.length_append, List.length_singleton, digK, ← h2]
      refine ⟨by omega, ?_⟩
      rw [← List.append_assoc]
      congr 2
      congr 1
      omega
theorem repeat_one (b : UInt8) : ∀ c, Lib.repeatL [b] c = List.replicate c b
  | 0 => rfl
  | c + 1 => by rw [Lib.repeatL, repeat_one b c]; rfl
theorem pad8 {n : Nat} (h : n < 100000000) : (Lib.decDigits n).length ≤ 8 ∧ Lib.repeatL [48] (8 - (Lib.decDigits n).length) ++ Lib.decDigits n = digK 8 n := by
  rw [repeat_one]
  exact digK_pad 7 n (by omega)
def isDig (b : UInt8) : Bool := decide (48 ≤ b.toNat) && decide (b.toNat ≤ 57)
theorem digK_all : ∀ k n, (digK k n).all isDig = true
  | 0, _ => rfl
  | k + 1, n => by
    rw [digK, List.all_append, digK_all k]
    have : isDig (u8 (48 + n % 10)) = true := by
      unfold isDig
      rw [u8_nat (by omega)]
      simp
      omega
    simp [this]
def valFrom (acc : Nat) (l : List UInt8) : Nat := l.foldl (fun a b => 10 * a + (b.toNat - 48)) acc
theorem val_append (acc : Nat) (l m : List UInt8) : valFrom acc (l ++ m) = valFrom (valFrom acc l) m := by simp [valFrom]
theorem val_digK : ∀ k n, valFrom 0 (digK k n) = n % 10 ^ k
  | 0, n => by simp [digK, valFrom]; omega
  | k + 1, n => by
    rw [digK, val_append, val_digK k]
    show 10 * (n / 10 % 10 ^ k) + ((u8 (48 + n % 10)).toNat - 48) = _
    rw [u8_nat (by omega), Nat.pow_succ', Nat.mod_mul]
    omega
/-- The name of a file of this kind and number; nothing where there is none. -/
def fileL (k : List UInt8) (n : Int) : List UInt8 := if okKind k = true ∧ 0 ≤ n ∧ n ≤ 99999999 then k ++ 45 :: digK 8 n.toNat else []
/-- The number of a name of this kind. -/
def numL (k s : List UInt8) : Int × Bool := if s.length = k.length + 9 ∧ (s.drop (k.length + 1)).all isDig = true ∧ fileL k (valFrom 0 (s.drop (k.length + 1)) : Nat) = s then ((valFrom 0 (s.drop (k.length + 1)) : Nat), true) else (0, false)
theorem numL_of {k s : List UInt8} {n : Int} (h : fileL k n = s) (hs : s ≠ []) : okKind k = true ∧ 0 ≤ n ∧ n ≤ 99999999 ∧ s = k ++ 45 :: digK 8 n.toNat ∧ s.drop (k.length + 1) = digK 8 n.toNat ∧ numL k s = (n, true) := by
  have h0 := h
  unfold fileL at h
  split at h
  case isFalse => exact absurd h.symm hs
  rename_i hc
  obtain ⟨h1, h2, h3⟩ := hc
  have hd : s.drop (k.length + 1) = digK 8 n.toNat := by
    rw [← h, ← List.drop_drop, List.drop_left]
    rfl
  have hv : ((valFrom 0 (digK 8 n.toNat) : Nat) : Int) = n := by
    rw [val_digK, Nat.mod_eq_of_lt (by omega)]
    omega
  refine ⟨h1, h2, h3, h.symm, hd, ?_⟩
  unfold numL
  rw [hd, hv, if_pos ⟨by rw [← h]; simp [digK_len], digK_all _ _, h0⟩]
theorem parse_digits (M : Nat) (hM : 18446744073709551615 ≤ M) : ∀ (l : List UInt8) (acc : Nat), l.all isDig = true → (acc + 1) * 10 ^ l.length ≤ 100000000000000000 → Lib.parseUintM M acc l = .ok (valFrom acc l)
  | [], acc, _, _ => rfl
  | b :: r, acc, h, hb => by
    simp only [List.all_cons, Bool.and_eq_true] at h
    have hd : 48 ≤ b.toNat ∧ b.toNat ≤ 57 := by simpa [isDig] using h.1
    have hp : 0 < 10 ^ r.length := Nat.pow_pos (by omega)
    have hle : (acc + 1) * 10 ≤ 100000000000000000 := by
      refine Nat.le_trans ?_ hb
      rw [List.length_cons, Nat.pow_succ', ← Nat.mul_assoc]
      exact Nat.le_mul_of_pos_right _ hp
    unfold Lib.parseUintM
    rw [if_pos hd, if_neg (by omega), if_neg (by omega)]
    have ih := parse_digits M hM r (acc * 10 + (b.toNat - 48)) h.2 (by
      refine Nat.le_trans (Nat.mul_le_mul_right _ (show acc * 10 + (b.toNat - 48) + 1 ≤ (acc + 1) * 10 by omega)) ?_
      rw [Nat.mul_assoc, ← Nat.pow_succ']
      exact hb)
    rw [ih]
    show _ = Lib.NumEnd.ok (valFrom (10 * acc + (b.toNat - 48)) r)
    rw [Nat.mul_comm acc 10]
theorem parse_digK (n : Nat) (h : n < 100000000) : Lib.parseIntB 64 (digK 8 n) = .ok (n : Int) := by
  have hall := digK_all 8 n
  have hlen := digK_len 8 n
  have hv := val_digK 8 n
  rw [Nat.mod_eq_of_lt (by omega)] at hv
  cases hl : digK 8 n with
  | nil => rw [hl] at hlen; simp at hlen
  | cons c r =>
    rw [hl] at hall hlen hv
    have hc : 48 ≤ c.toNat ∧ c.toNat ≤ 57 := by
      simp only [List.all_cons, Bool.and_eq_true] at hall
      simpa [isDig] using hall.1
    have hp : Lib.parseUintB 64 (c :: r) = .ok n := by
      unfold Lib.parseUintB
      rw [if_neg (by simp), parse_digits _ (by decide) _ 0 hall (by rw [hlen]; decide), hv]
    unfold Lib.parseIntB
    simp only
    rw [if_neg (by omega), hp]
    simp only
    rw [if_neg (by simp; omega), if_neg (by simp; omega), if_neg (by omega)]
/-- The program's way to a name's number. -/
theorem num_prog (k s : List UInt8) : numL k s = if Lib.hasPrefix s (k ++ [45]) = true ∧ (Lib.trimPrefix s (k ++ [45])).length = 8 then
      (match Lib.parseIntB 64 (Lib.trimPrefix s (k ++ [45])) with | .ok v => if fileL k v = s then (v, true) else (0, false) | _ => (0, false)) else (0, false) := by
  by_cases hn : ∃ n, fileL k n = s ∧ s ≠ []
  · obtain ⟨n, h, hs⟩ := hn
    obtain ⟨h1, h2, h3, h4, h5, h6⟩ := numL_of h hs
    have hp : Lib.hasPrefix s (k ++ [45]) = true := by
      unfold Lib.hasPrefix
      rw [List.isPrefixOf_iff_prefix]
      exact ⟨digK 8 n.toNat, by rw [h4]; simp⟩
    have ht : Lib.trimPrefix s (k ++ [45]) = digK 8 n.toNat := by
      unfold Lib.trimPrefix
      rw [if_pos hp, ← h5]
      simp
    rw [h6, ht, if_pos ⟨hp, digK_len _ _⟩, parse_digK _ (by omega)]
    simp only
    rw [Int.toNat_of_nonneg h2, if_pos h]
  · have hl : numL k s = (0, false) := by
      unfold numL
      rw [if_neg]
      rintro ⟨h1, _, h3⟩
      exact hn ⟨_, h3, fun e => by rw [e] at h1; simp at h1⟩
    rw [hl]
    split
    · rename_i hc
      have hs : s ≠ [] := fun e => by
        subst e
        have := hc.1
        unfold Lib.hasPrefix at this
        rw [List.isPrefixOf_iff_prefix] at this
        have := this.length_le
        simp at this
      split
      · rw [if_neg]
        exact fun e => hn ⟨_, e, hs⟩
      · rfl
    · rfl
end Go.Proofs.YtljabmkmngbhkaaGreatDoor
namespace Go.Proofs.YtljabmkmngbhkaaGreatDoor
open Go.RowKit Go.Shelf
set_option linter.unusedVariables false
set_option linter.unusedSimpArgs false

/-- The library's table of powers of ten is as its text lays it. -/
def Tab (w : World) : Prop := Lib.TabIs Tryz.prog w "internal/strconv.uint64pow10" .u64 Lib.pow10Tab
theorem Tab.chg {w w' : World} (h : Tab w) (hc : Chg (fun _ => False) w w') : Tab w' := (Lib.tabBelow_of_tabIs h) w' hc.below
theorem ren_fmtM : Tryz.fmtIntM_ren.f 173 = 284 := by kernel_rfl
theorem fmt_any (n : Int) (h0 : 0 ≤ n) (h1 : n ≤ 9223372036854775807) (w : World) (ht : Tab w) : Calls Tryz.prog 284 #[.int .i64 n, .int .i64 10] w fun e w' => e = .returned (.string ⟨(Lib.decDigits n.toNat).toArray⟩) ∧ Chg (fun _ => False) w w' := by
  have h := Any.strconv_FormatInt_10 Tryz.fmtIntM n (by omega) h1 w ht
  rw [ren_fmtM] at h
  refine h.mono fun e w' ⟨he, k, os, hw⟩ => ⟨?_, ?_⟩
  · rw [he]
    unfold Lib.itoa
    rw [if_neg (by omega)]
  · subst hw
    exact Chg.of_below ⟨rfl, rfl, rfl, by show w.heap.size ≤ (w.heap ++ os).size; rw [Array.size_append]; omega, fun j hj => Lib.heap_grow_old w k os j (by omega)⟩
theorem str_trim_any (s : ByteArray) (w : World) (hs : s.size ≤ maxLen) : Calls Tryz.prog 283 #[.string s, .string letters] w fun e w' => e = .returned (.string ⟨(Lib.trimS s.data.toList letters.data.toList).toArray⟩) ∧ Chg (fun _ => False) w w' := by
  unfold maxLen at hs
  have h := Any.strings_Trim_laid Tryz.strTrim (by kernel_rfl) s letters w (by omega) (by decide) (ascii_of_all (by decide))
  rw [ren_trim] at h
  exact h.mono fun e w' ⟨he, hb⟩ => ⟨he, Chg.of_below hb⟩
def fileB (k : ByteArray) (n : Int) : ByteArray := ⟨(fileL k.data.toList n).toArray⟩
theorem isE (b : ByteArray) : b.toList.isEmpty = b.data.toList.isEmpty := by rw [ByteArray.toList_eq]
theorem trim_test (k : ByteArray) : (⟨(Lib.trimS k.data.toList letters.data.toList).toArray⟩ : ByteArray).toList.isEmpty = k.data.toList.all lowB := by
  rw [isE]
  have e : letters.data.toList = lettersL := rfl
  have h := trim_low k.data.toList
  rw [e]
  cases hx : k.data.toList.all lowB with
  | true => rw [h.2 hx]; rfl
  | false =>
    rw [List.isEmpty_eq_false_iff]
    intro h2
    rw [h.1 h2] at hx
    cases hx
theorem fileB_no {k : ByteArray} {n : Int} (h : ¬ (okKind k.data.toList = true ∧ 0 ≤ n ∧ n ≤ 99999999)) : fileB k n = ⟨#[]⟩ := by
  unfold fileB fileL
  rw [if_neg h]
theorem fileB_yes {k : ByteArray} {n : Int} (h : okKind k.data.toList = true ∧ 0 ≤ n ∧ n ≤ 99999999) : fileB k n = k ++ ⟨#[45]⟩ ++ ⟨(digK 8 n.toNat).toArray⟩ := by
  unfold fileB fileL
  rw [if_pos h]
  apply ByteArray.ext
  simp
theorem file_prog {k : ByteArray} {n : Int} (h : okKind k.data.toList = true ∧ 0 ≤ n ∧ n ≤ 99999999) : fileB k n = k ++ ⟨#[45]⟩ ++ ⟨(Lib.repeatL [48] (8 - (Lib.decDigits n.toNat).length)).toArray⟩ ++ ⟨(Lib.decDigits n.toNat).toArray⟩ := by
  unfold fileB fileL
  rw [if_pos h, ← (pad8 (show n.toNat < 100000000 by omega)).2]
  apply ByteArray.ext
  simp
set_option maxRecDepth 100000 in
set_option maxHeartbeats 2000000 in
theorem wal_file (k : ByteArray) (n : Int) (hk : k.size ≤ 140737488351232) (h0 : -9223372036854775808 ≤ n) (h1 : n ≤ 9223372036854775807) (w : World) (ht : Tab w) :
    Calls Tryz.prog 208 #[.string k, .int .i64 n] w fun e w' => e = .returned (.string (fileB k n)) ∧ Chg (fun _ => False) w w' := by
  have htr := fun w => str_trim_any k w (by unfold maxLen; omega)
  have hte := trim_test k
  obtain ⟨t, htt⟩ : ∃ t, (⟨(Lib.trimS k.data.toList letters.data.toList).toArray⟩ : ByteArray) = t := ⟨_, rfl⟩
  rw [htt] at htr hte
  have HTR := Lib.hid htr
  have HT := Lib.hid ht
  clear htr htt ht
  cases hke : k.toList.isEmpty with
  | true =>
    have hno : fileB k n = ⟨#[]⟩ := fileB_no (by
      rintro ⟨h, _⟩
      unfold okKind at h
      rw [← isE, hke] at h
      simp at h)
    rw [hno]
    clear hno hte
    go_enter Tryz.func208, Tryz.ntmps208
    go_wp2_with fail
    go_ret
    exact ⟨rfl, Chg.refl _ _⟩
  | false =>
    cases hall : k.data.toList.all lowB with
    | false =>
      have hno : fileB k n = ⟨#[]⟩ := fileB_no (by
        rintro ⟨h, _⟩
        unfold okKind at h
        rw [hall] at h
        simp at h)
      rw [hno]
      rw [hall] at hte
      clear hno hall
      go_enter Tryz.func208, Tryz.ntmps208
      go_wp2_with fail
      refine (HTR.out _).mono ?_
      rintro e w1 ⟨rfl, hc1⟩
      have HC1 := Lib.hid hc1
      clear hc1
      go_wp2_with fail
      go_ret
      exact ⟨rfl, HC1.out⟩
    | true =>
      rw [hall] at hte
      have hok : okKind k.data.toList = true := by
        unfold okKind
        rw [hall, ← isE, hke]
        rfl
      by_cases hn : 0 ≤ n ∧ n ≤ 99999999
      · obtain ⟨hn0, hn1⟩ := hn
        have hyes := file_prog ⟨hok, hn0, hn1⟩
        have hpad := (pad8 (show n.toNat < 100000000 by omega)).1
        have hfm := fun w ht => fmt_any n hn0 h1 w ht
        have hsz : (⟨(Lib.decDigits n.toNat).toArray⟩ : ByteArray).size = (Lib.decDigits n.toNat).length := by simp [ByteArray.size]
        obtain ⟨ds, hds⟩ : ∃ ds, (⟨(Lib.decDigits n.toNat).toArray⟩ : ByteArray) = ds := ⟨_, rfl⟩
        obtain ⟨m, hm⟩ : ∃ m, (Lib.decDigits n.toNat).length = m := ⟨_, rfl⟩
        rw [hds, hm] at hsz
        rw [hds] at hfm
        rw [hds, hm] at hyes
        rw [hm] at hpad
        have hrp := fun w => str_rep ⟨#[48]⟩ (8 - m) w (by show 1 * (8 - m) ≤ _; omega) (by omega)
        have hrz : (⟨(Lib.repeatL [48] (8 - m)).toArray⟩ : ByteArray).size = 8 - m := by simp [ByteArray.size, Lib.repeatL_length]
        obtain ⟨rp, hrpe⟩ : ∃ rp, (⟨(Lib.repeatL [48] (8 - m)).toArray⟩ : ByteArray) = rp := ⟨_, rfl⟩
        have hrp : ∀ w, Calls Tryz.prog 285 #[.string ⟨#[48]⟩, .int .i64 ((8 - m : Nat) : Int)] w fun e w' => e = .returned (.string rp) ∧ Chg (fun _ => False) w w' := fun w => by
          rw [← hrpe]
          exact hrp w
        rw [hrpe] at hyes hrz
        rw [hyes]
        have HRZ := Lib.hid hrz
        have HFM := Lib.hid hfm
        have HRP := Lib.hid hrp
        have HSZ := Lib.hid hsz
        clear hfm hrp hyes hds hm hall hok hsz hrpe hrz
        have e8 : (8 : Int) - (m : Int) = ((8 - m : Nat) : Int) := by omega
        have hd1 : decide (n < 0) = false := by simp; omega
        have hd2 : decide (n > 99999999) = false := by simp; omega
        go_enter Tryz.func208, Tryz.ntmps208
        go_wp2_with fail
        refine (HTR.out _).mono ?_
        rintro e w1 ⟨rfl, hc1⟩
        have HC1 := Lib.hid hc1
        have HT1 := Lib.hid (HT.out.chg hc1)
        clear hc1
        go_wp2_with fail
        refine (HFM.out _ HT1.out).mono ?_
        rintro e w2 ⟨rfl, hc2⟩
        have HC2 := Lib.hid (HC1.out.then hc2)
        have hsz := HSZ.out
        clear hc2
        go_wp2_with fail
        refine (HRP.out _).mono ?_
        rintro e w3 ⟨rfl, hc3⟩
        have HC3 := Lib.hid (HC2.out.then hc3)
        have hrz := HRZ.out
        clear hc3
        go_wp2_with fail
        go_ret
        exact ⟨rfl, HC3.out⟩
      · have hno : fileB k n = ⟨#[]⟩ := fileB_no (by
          rintro ⟨_, h⟩
          exact hn h)
        rw [hno]
        clear hno hall hok
        go_enter Tryz.func208, Tryz.ntmps208
        go_wp2_with fail
        refine (HTR.out _).mono ?_
        rintro e w1 ⟨rfl, hc1⟩
        have HC1 := Lib.hid hc1
        clear hc1
        go_wp2_with fail
        all_goals first | (exfalso; omega) | (go_ret; exact ⟨rfl, HC1.out⟩)
end Go.Proofs.YtljabmkmngbhkaaGreatDoor
namespace Go.Proofs.YtljabmkmngbhkaaGreatDoor
open Go.RowKit Go.Shelf
set_option linter.unusedVariables false
set_option linter.unusedSimpArgs false

end Go.Proofs.YtljabmkmngbhkaaGreatDoor
namespace Go.Proofs.YtljabmkmngbhkaaGreatDoor
open Go.RowKit Go.Shelf
set_option linter.unusedVariables false
set_option linter.unusedSimpArgs false

/-- The library's two errors hold what an interface may. -/
def ErrOk (w : World) : Prop := ∃ t1 p1 t2 p2, w.cell? ⟨2, 0, none⟩ = some (.iface t1 p1) ∧ w.cell? ⟨3, 0, none⟩ = some (.iface t2 p2)
theorem ErrOk.chg {w w' : World} (h : ErrOk w) (hc : Chg (fun _ => False) w w') : ErrOk w' := by
  obtain ⟨t1, p1, t2, p2, h1, h2⟩ := h
  exact ⟨t1, p1, t2, p2, (hc.cell (World.block_lt_of_cell? w _ h1) (by simp)).trans h1, (hc.cell (World.block_lt_of_cell? w _ h2) (by simp)).trans h2⟩
theorem ren_parse : Tryz.parseInt_ren.f 174 = 297 := by kernel_rfl
theorem ren_ps : Tryz.parseInt_ren.g 15 = 2 := by kernel_rfl
theorem ren_pr : Tryz.parseInt_ren.g 16 = 3 := by kernel_rfl
theorem ren_cut : Tryz.cutPre_ren.f 103 = 296 := by kernel_rfl
def ParsePost (w : World) (s : ByteArray) (e : Ending) (w' : World) : Prop :=
  ((∃ v, Lib.parseIntB 64 s.data.toList = .ok v ∧ e = .returned (.tuple #[.int .i64 v, .nilIface])) ∨ ((∀ v, Lib.parseIntB 64 s.data.toList ≠ .ok v) ∧ ∃ x t p, e = .returned (.tuple #[.int .i64 x, .iface t p]))) ∧ Chg (fun _ => False) w w'
theorem parse_int (s : ByteArray) (hs : s.size ≤ 1000) (w : World) (he : ErrOk w) : Calls Tryz.prog 297 #[.string s, .int .i64 10, .int .i64 64] w (ParsePost w s) := by
  obtain ⟨t1, p1, t2, p2, h1, h2⟩ := he
  rw [← ren_ps] at h1
  rw [← ren_pr] at h2
  rw [← ren_parse]
  cases h : Lib.parseIntB 64 s.data.toList
  case ok v =>
    refine (Any.strconv_ParseInt_10_at64_ok Tryz.parseInt s (by omega) v h w).mono fun e w' ⟨he, hw⟩ => ⟨.inl ⟨v, h, he⟩, ?_⟩
    rcases hw with rfl | ⟨t, rfl⟩
    · exact Chg.refl _ _
    · exact Chg.of_below (Lib.bytesWorld_below _ _ _)
  all_goals
    first
    | refine (Any.strconv_ParseInt_10_at64_syntax Tryz.parseInt s (by omega) h _ w h1 (.inr ⟨t1, p1, rfl⟩)).mono fun e w' ⟨N, he, _, _, hb⟩ => ⟨.inr ⟨fun v hv => ?_, _, _, _, he⟩, Chg.of_below hb⟩
    | refine (Any.strconv_ParseInt_10_at64_range Tryz.parseInt s (by omega) h _ w h2 (.inr ⟨t2, p2, rfl⟩)).mono fun e w' ⟨N, he, _, _, hb⟩ => ⟨.inr ⟨fun v hv => ?_, _, _, _, he⟩, Chg.of_below hb⟩
    rw [h] at hv
    cases hv
theorem cut_prefix (s p : ByteArray) (w : World) : Calls Tryz.prog 296 #[.string s, .string p] w fun e w' => e = .returned (.tuple #[.string ⟨(Lib.trimPrefix s.data.toList p.data.toList).toArray⟩, .bool (Lib.hasPrefix s.data.toList p.data.toList)]) ∧ w' = w := by
  have h := Any.strings_CutPrefix Tryz.cutPre s p w
  rw [ren_cut] at h
  exact h
theorem ba_eq {a b : ByteArray} (h : a.data.toList = b.data.toList) : a = b := ByteArray.ext (Array.ext' h)
theorem ba_test (a b : ByteArray) : (a.toList == b.toList) = decide (a = b) := by
  rw [ByteArray.toList_eq, ByteArray.toList_eq]
  by_cases h : a = b
  · subst h; simp
  · have : a.data.toList ≠ b.data.toList := fun e => h (ba_eq e)
    rw [beq_eq_false_iff_ne.2 this]
    simp [h]
def NumberPost (w : World) (k s : ByteArray) (e : Ending) (w' : World) : Prop :=
  e = .returned (.tuple #[.int .i64 (numL k.data.toList s.data.toList).1, .bool (numL k.data.toList s.data.toList).2]) ∧ Chg (fun _ => False) w w'
set_option maxRecDepth 100000 in
set_option maxHeartbeats 2000000 in
theorem wal_number (k s : ByteArray) (hk : k.size ≤ 140737488351232) (hs : s.size ≤ 140737488351232) (w : World) (ht : Tab w) (he : ErrOk w) :
    Calls Tryz.prog 226 #[.string k, .string s] w (NumberPost w k s) := by
  have hcut := fun w => cut_prefix s (k ++ ⟨#[45]⟩) w
  have hnum := num_prog k.data.toList s.data.toList
  have hpl : (k ++ ⟨#[45]⟩ : ByteArray).data.toList = k.data.toList ++ [45] := by simp
  rw [hpl] at hcut
  have hrl : (⟨(Lib.trimPrefix s.data.toList (k.data.toList ++ [45])).toArray⟩ : ByteArray).data.toList = Lib.trimPrefix s.data.toList (k.data.toList ++ [45]) := rfl
  obtain ⟨r, hr⟩ : ∃ r, (⟨(Lib.trimPrefix s.data.toList (k.data.toList ++ [45])).toArray⟩ : ByteArray) = r := ⟨_, rfl⟩
  obtain ⟨hp, hhp⟩ : ∃ hp, Lib.hasPrefix s.data.toList (k.data.toList ++ [45]) = hp := ⟨_, rfl⟩
  rw [hr] at hcut hrl
  rw [← hrl, hhp] at hnum
  rw [hhp] at hcut
  have hrz : r.data.toList.length = r.size := by rw [Array.length_toList]; rfl
  rw [hrz] at hnum
  have hfile := fun v h0 h1 w ht => wal_file k v hk h0 h1 w ht
  have HCUT := Lib.hid hcut
  have HNUM := Lib.hid hnum
  have HF := Lib.hid hfile
  have HT := Lib.hid ht
  have HE := Lib.hid he
  clear hcut hnum hpl hrl hr hhp hrz hfile ht he
  have main : ∀ x b, numL k.data.toList s.data.toList = (x, b) → Calls Tryz.prog 226 #[.string k, .string s] w fun e w' => e = .returned (.tuple #[.int .i64 x, .bool b]) ∧ Chg (fun _ => False) w w' := by
    intro x b hxb
    have hn := HNUM.out
    rw [hxb] at hn
    clear hxb HNUM
    cases hp with
    | false =>
      rw [if_neg (by simp)] at hn
      injection hn with hx hb
      subst hx hb
      go_enter Tryz.func226, Tryz.ntmps226
      go_wp2_with fail
      refine (HCUT.out _).mono ?_
      rintro e w1 ⟨rfl, rfl⟩
      go_wp2_with fail
      go_ret2
      exact ⟨rfl, Chg.refl _ _⟩
    | true =>
      by_cases hz : r.size = 8
      · rw [if_pos ⟨rfl, hz⟩] at hn
        have hz2 : ((r.size : Int) == 8) = true := by rw [hz]; rfl
        have hpa := fun w he => parse_int r (by omega) w he
        have HPA := Lib.hid hpa
        have HN := Lib.hid hn
        clear hpa hn hz
        go_enter Tryz.func226, Tryz.ntmps226
        go_wp2_with fail
        refine (HCUT.out _).mono ?_
        rintro e w1 ⟨rfl, rfl⟩
        go_wp2_with fail
        refine (HPA.out _ HE.out).mono ?_
        rintro e w2 ⟨⟨v, hv, rfl⟩ | ⟨hno, y, t, p, rfl⟩, hc2⟩
        · have hn := HN.out
          rw [hv] at hn
          have hbd := Lib.parseIntB_bounds hv
          have hff := HF.out v (by simp at hbd; omega) (by simp at hbd; omega) w2 (HT.out.chg hc2)
          obtain ⟨f, hf⟩ : ∃ f, fileB k v = f := ⟨_, rfl⟩
          have hfl : fileL k.data.toList v = f.data.toList := by rw [← hf]; rfl
          rw [hf] at hff
          simp only [hfl] at hn
          have htest := ba_test f s
          by_cases hfs : f = s
          · rw [if_pos (by rw [hfs])] at hn
            injection hn with hx hb
            subst hx hb
            rw [decide_eq_true hfs] at htest
            have HFF := Lib.hid hff
            have HC2 := Lib.hid hc2
            clear hff hc2 hv hfl hf hfs HN hbd
            go_wp2_with fail
            refine HFF.out.mono ?_
            rintro e w3 ⟨rfl, hc3⟩
            have HC3 := Lib.hid (HC2.out.then hc3)
            clear hc3
            go_wp2_with fail
            go_ret2
            exact ⟨rfl, HC3.out⟩
          · rw [if_neg (fun e => hfs (ba_eq e))] at hn
            injection hn with hx hb
            subst hx hb
            rw [decide_eq_false hfs] at htest
            have HFF := Lib.hid hff
            have HC2 := Lib.hid hc2
            clear hff hc2 hv hfl hf hfs HN hbd
            go_wp2_with fail
            refine HFF.out.mono ?_
            rintro e w3 ⟨rfl, hc3⟩
            have HC3 := Lib.hid (HC2.out.then hc3)
            clear hc3
            go_wp2_with fail
            go_ret2
            exact ⟨rfl, HC3.out⟩
        · have hn := HN.out
          have h2 : (x, b) = ((0 : Int), false) := by
            rw [hn]
            split
            · rename_i v hv
              exact absurd hv (hno v)
            · rfl
          injection h2 with hx hb
          subst hx hb
          have HC2 := Lib.hid hc2
          clear hc2 hno hn HN
          go_wp2_with fail
          go_ret2
          exact ⟨rfl, HC2.out⟩
      · rw [if_neg (fun h => hz h.2)] at hn
        injection hn with hx hb
        subst hx hb
        have hz2 : ((r.size : Int) == 8) = false := by rw [beq_eq_false_iff_ne]; omega
        clear hz
        go_enter Tryz.func226, Tryz.ntmps226
        go_wp2_with fail
        refine (HCUT.out _).mono ?_
        rintro e w1 ⟨rfl, rfl⟩
        go_wp2_with fail
        go_ret2
        exact ⟨rfl, Chg.refl _ _⟩
  exact main _ _ rfl
end Go.Proofs.YtljabmkmngbhkaaGreatDoor
namespace Go.Proofs.YtljabmkmngbhkaaGreatDoor
open Go.ChangeShapes Go.WideShapes Go.ChangeAt Go.RowKit Go.Deep
set_option linter.unusedVariables false
set_option linter.unusedSimpArgs false

/-- The numbers of a table, as cells. -/
def litV : DataW Unit → List Value
  | .lit (.int k n) => [.int k n]
  | _ => []
def tabV : DataW Unit → List Value
  | .agg l => l.flatMap fun x => match x with
    | .agg m => m.flatMap litV
    | x => litV x
  | _ => []
def setV (l : List Value) (o : Obj) : Obj := match o with
  | .cells _ t frozen => Obj.cells l.toArray t frozen
  | o => o
abbrev synS : ByteArray := { data := #[105, 110, 118, 97, 108, 105, 100, 32, 115, 121, 110, 116, 97, 120] }
abbrev rngS : ByteArray := { data := #[118, 97, 108, 117, 101, 32, 111, 117, 116, 32, 111, 102, 32, 114, 97, 110, 103, 101] }
noncomputable def low : Nat := (World.holding Tryz.prog default ⟨#[], #[], []⟩).heap.size
/-- A world for the witness: the settled one, two errors more, the listed variables as their initialisers lay them. -/
noncomputable def laidWorld (os : Os) : World :=
  { World.holding Tryz.prog os ⟨#[.cells #[.string synS] 499, .cells #[.string rngS] 499], #[], []⟩ with heap := (((((((World.holding Tryz.prog os ⟨#[.cells #[.string synS] 499, .cells #[.string rngS] 499], #[], []⟩).heap.modify 1 (setV (tabV Rows.laid_internal_strconv_uint64pow10))).modify 4 (setV (tabV Rows.laid_unicode_utf8_first))).modify 5 (setV (tabV Rows.laid_unicode_utf8_acceptRanges))).modify 6 (setV (tabV Rows.laid_math_bits_deBruijn32tab))).modify 7 (setV (tabV Rows.laid_math_bits_deBruijn64tab))).modify 2 (setV [.iface 497 (.pointer (some ⟨low, 0, none⟩))])).modify 3 (setV [.iface 497 (.pointer (some ⟨low + 1, 0, none⟩))]) }
theorem g_tab : Tryz.prog.globalNamed "internal/strconv.uint64pow10" = some 1 := by kernel_rfl
theorem g_syn : Tryz.prog.globalNamed "strconv.ErrSyntax" = some 2 := by kernel_rfl
theorem g_rng : Tryz.prog.globalNamed "strconv.ErrRange" = some 3 := by kernel_rfl
/-- From a row's list, the one entry of a name. -/
theorem laid_one {l : List (String × DataW Unit)} {W : World} (n : String) (h : laidMetH Tryz.prog l W) {r : List (String × DataW Unit)} (hr : (l.filter fun x => x.1 == n) = r) (hh : (r.all fun x => x.2.handleName?.isNone) = true) : laidMet Tryz.prog r W := by
  have h1 := h.filter fun x => x.1 == n
  rw [hr, MakeChecks.laidMetH_plain _ _ _ hh] at h1
  exact h1
theorem tab_of {l : List (String × DataW Unit)} {W : World} (h : laidMetH Tryz.prog l W) (hr : (l.filter fun x => x.1 == "internal/strconv.uint64pow10") = [("internal/strconv.uint64pow10", Lib.tabData .u64 Lib.pow10Tab)]) : Tab W :=
  Lib.tabIs_of_head (rest := []) g_tab (t := 482) (e := 260) (n := 20) (by kernel_rfl) (by kernel_rfl) (by kernel_rfl) (by kernel_rfl) (by kernel_rfl) (laid_one _ h hr (by kernel_rfl))
theorem star_err : "*" ++ "errors.errorString" = "*errors.errorString" := by decide
theorem row_err (u : TypeId) (h : Tryz.prog.typeName? 3 u = some "*errors.errorString") : u = 497 :=
  typeName_ptr_named (nm := "errors.errorString") (by rw [star_err]; kernel_rfl) (by kernel_rfl) (by decide) u (by rw [star_err]; exact h)
theorem err_cell {n : String} {text : List UInt8} {W : World} {g : Nat} (hg : Tryz.prog.globalNamed n = some g) (ht : (Tryz.prog.globals[g]?).map (·.type) = some 173)
    (h : laidMet Tryz.prog [(n, .iface "*errors.errorString" (.ptr (.agg [.lit (.string text)])))] W) : ∃ t p, W.cell? ⟨g, 0, none⟩ = some (.iface t p) := by
  obtain ⟨a, s, hv, _⟩ := laid_sentinel h hg ht Tryz.underlying173 row_err Tryz.underlying497 Tryz.underlying499 rfl rfl Tryz.underlying9 (by kernel_rfl) (by kernel_rfl)
  exact ⟨_, _, by simpa using World.var?_cell hg hv 0⟩
theorem err_of {l : List (String × DataW Unit)} {W : World} (h : laidMetH Tryz.prog l W) {t1 t2 : List UInt8} (h1 : (l.filter fun x => x.1 == "strconv.ErrSyntax") = [("strconv.ErrSyntax", .iface "*errors.errorString" (.ptr (.agg [.lit (.string t1)])))])
    (h2 : (l.filter fun x => x.1 == "strconv.ErrRange") = [("strconv.ErrRange", .iface "*errors.errorString" (.ptr (.agg [.lit (.string t2)])))]) : ErrOk W := by
  obtain ⟨a, p, e1⟩ := err_cell g_syn (by kernel_rfl) (laid_one _ h h1 rfl)
  obtain ⟨b, q, e2⟩ := err_cell g_rng (by kernel_rfl) (laid_one _ h h2 rfl)
  exact ⟨a, p, b, q, e1, e2⟩
end Go.Proofs.YtljabmkmngbhkaaGreatDoor
namespace Go.Proofs.YtljabmkmngbhkaaGreatDoor
open Go.ChangeShapes Go.WideShapes Go.ChangeAt Go.RowKit Go.Deep
set_option linter.unusedVariables false
section
variable {H : Type} {enc : TypeId × Value → H} {P : Program}
end
end Go.Proofs.YtljabmkmngbhkaaGreatDoor
namespace Go.Proofs.YtljabmkmngbhkaaGreatDoor
open Go.ChangeShapes Go.WideShapes Go.ChangeAt Go.RowKit Go.Deep
set_option linter.unusedVariables false
section
variable {H : Type} {enc : TypeId × Value → H} {P : Program}
theorem open_agg_sized {t : TypeId} {fs : Array Field} {W : World} {r : Reach} {b0 : Nat} {v : Value} {d : DataW H} {ps : List MemPlace} (he : P.underlying t = some (.struct fs))
    (hone : oneCellFields P fs = true) (hC : P.cellsOf t = fs.size) (hv : Value.okWide P W r b0 t v) (h : DataW.Trod enc P W 0 (fun _ => true) true t v d ps) (hw : ∀ n ∈ d.weights P t, n ≤ reachBytes) :
    ∃ cs : Array Value, v = .agg cs ∧ cs.size = fs.size ∧ ∀ j f, fs[j]? = some f → ∃ y fuel, DataW.trod enc P W 0 (fun _ => true) true fuel f.type [cs.toList.getD j .nilFunc] = some y ∧ ∀ n ∈ y.1.weights P f.type, n ≤ reachBytes := by
  obtain ⟨cs, rfl, hsz⟩ := okWide_struct he hv
  obtain ⟨fuel, hf⟩ := h
  obtain ⟨xs, k', _, hxe, hcl, hxl, hff⟩ := DataW.trod_struct he hf
  have hd := congrArg Prod.fst hxe
  simp only at hd
  subst hd
  refine ⟨cs, rfl, hsz.trans hC, fun j fd hfd => ?_⟩
  obtain ⟨ho, hk⟩ := hone_of hone j fd hfd
  have hj : j < fs.size := (Array.getElem?_eq_some_iff.1 hfd).1
  have hl : cs.toList.length = fs.size := by rw [Array.length_toList]; exact hsz.trans hC
  have h1 := hff j fd hfd
  rw [ho, hk] at h1
  have hd : ((Value.agg cs).cells.toList.drop j).take 1 = [cs.toList.getD j .nilFunc] := by
    have hg : cs.toList.getD j .nilFunc = cs.toList[j] := by simp [List.getD, List.getElem?_eq_getElem (show j < cs.toList.length by omega)]
    show (cs.toList.drop j).take 1 = _
    rw [hg, List.drop_eq_getElem_cons (by omega)]
    rfl
  rw [hd] at h1
  have hjx : j < xs.length := by rw [hxl]; omega
  rw [List.getElem?_eq_getElem hjx] at h1
  refine ⟨_, _, h1, fun n hn => hw n ?_⟩
  simp only [DataW.weights, he]
  refine DataW.weights_mem_each (j := j) (t := fd.type) (d := xs[j].1) ?_ ?_ n hn
  · rw [List.getElem?_map, Array.getElem?_toList, hfd]
    rfl
  · rw [List.getElem?_map, List.getElem?_eq_getElem hjx]
    rfl
theorem array5 {α : Type} {a : Array α} (h : a.size = 5) : ∃ x0 x1 x2 x3 x4, a = #[x0, x1, x2, x3, x4] := by
  obtain ⟨l⟩ := a
  match l, h with
  | [x0, x1, x2, x3, x4], _ => exact ⟨x0, x1, x2, x3, x4, rfl⟩
theorem int_of_sized {W : World} {v : Value} {f : TypeId} (h : ∃ y fuel, DataW.trod enc P W 0 (fun _ => true) true fuel f [v] = some y ∧ ∀ n ∈ y.1.weights P f, n ≤ reachBytes) (hu : P.underlying f = some (.int .i64)) :
    ∃ x : Int, v = .int .i64 x ∧ -9223372036854775808 ≤ x ∧ x ≤ 9223372036854775807 := by
  obtain ⟨y, fuel, hy, _⟩ := h
  obtain ⟨x, e, _, hw⟩ := DataW.trod_int hu hy
  refine ⟨x, by simpa using e, ?_⟩
  simp [Lit.wf, IntKind.min, IntKind.max, IntKind.signed, IntKind.bits] at hw
  omega
theorem str_of_sized {W : World} {v : Value} {f : TypeId} (h : ∃ y fuel, DataW.trod enc P W 0 (fun _ => true) true fuel f [v] = some y ∧ ∀ n ∈ y.1.weights P f, n ≤ reachBytes) (hu : P.underlying f = some .string) :
    ∃ s : ByteArray, v = .string s ∧ s.size ≤ 140737488351232 := by
  obtain ⟨y, fuel, hy, hwy⟩ := h
  obtain ⟨s, e, hx, hs⟩ := DataW.trod_string hu hy
  subst hx
  refine ⟨s, by simpa using e, ?_⟩
  have := hwy s.data.toList.length (by simp [DataW.weights])
  simp only [Array.length_toList, reachBytes] at this
  exact this
end
end Go.Proofs.YtljabmkmngbhkaaGreatDoor
namespace Go.Proofs.YtljabmkmngbhkaaGreatDoor
open Go.RowKit
set_option linter.unusedVariables false
set_option linter.unusedSimpArgs false

theorem ky_drew {w : World} {p : Addr} {v : Value} (h : w.cell? p = some v) : w.drew.cell? p = some v := h
theorem ky_alloc {w : World} {p : Addr} {v : Value} (o : Obj) (h : w.cell? p = some v) : (w.alloc o).cell? p = some v := by
  have hlt := World.block_lt_of_cell? w p h
  exact (World.cell?_of_block (w := w) (Below.heap_alloc w o p.block hlt)).trans h
theorem ky_chg {w w' : World} {p : Addr} {v : Value} (hc : Chg (fun _ => False) w w') (h : w.cell? p = some v) : w'.cell? p = some v := (hc.cell (World.block_lt_of_cell? w p h) (by simp)).trans h
theorem cat_ok (x y : ByteArray) (h : x.size + y.size ≤ 9223372036854775807) : Op.stringOp .add x y = pure (.string (x ++ y)) := by
  unfold Op.stringOp
  simp only
  rw [if_neg]
  simp [IntKind.max, IntKind.bits, IntKind.signed]
  omega
theorem bs_eq {a b : ByteArray} (h : a.data.toList = b.data.toList) : a = b := ByteArray.ext (Array.ext' h)
theorem bs_test (a b : ByteArray) : (a.toList == b.toList) = decide (a = b) := by
  rw [ByteArray.toList_eq, ByteArray.toList_eq]
  by_cases h : a = b
  · subst h; simp
  · have : a.data.toList ≠ b.data.toList := fun e => h (bs_eq e)
    rw [beq_eq_false_iff_ne.2 this]
    simp [h]
theorem bs_len (s : ByteArray) : s.data.toList.length = s.size := by rw [Array.length_toList]; rfl
end Go.Proofs.YtljabmkmngbhkaaGreatDoor
namespace Go.Proofs.YtljabmkmngbhkaaGreatDoor
open Go.RowKit
set_option linter.unusedVariables false
set_option linter.unusedSimpArgs false

section
variable {α : Type} {C : Codec α} {a : Act} {Q : Exit → Act → World → Prop} {K : Act → World → Prop} {ops : Array Oper} {o : Oper} {rest : List Oper} {E : Prop}
theorem run_lst_apps (hC : C.Ok) (W : World) (ty : TypeId) (L M : List α) (v : Value) (hv : Lst C W v L) (b : Nat) (hb : Blk W b C.e (M.flatMap C.g).toArray) (hL : L.length ≤ 1000000000) (hM : M.length ≤ 1000) :
    ∃ v' w', (Builtin.append_ #[C.s, C.s] ty #[v, .slice (some ⟨b, 0, none⟩) M.length M.length]).run Tryz.prog W = .ok v' w' ∧ Lst C w' v' (L ++ M) ∧ Chg (fun k => v.ownBlock = some k) W w' ∧ (∀ k, v'.ownBlock = some k → v.ownBlock = some k ∨ W.heap.size ≤ k) := by
  obtain ⟨i0, hi, hz0, hz1, hz2⟩ := info_parts hC.info
  have hs := hC.small
  obtain ⟨v', w', hr, hown, hg, hk⟩ := run_own_append (P := Tryz.prog) W C.s C.s ty C.e i0 C.zero C.k C.bytes hC.und hi hz0 hz1 hz2 hC.zsize v L.length (L.flatMap C.g) hv (.slice (some ⟨b, 0, none⟩) M.length M.length) M.length (M.flatMap C.g)
    (Src.ofSlice W hC.und ⟨b, 0, none⟩ M.length M.length _ (flat_len hC.len M) (World.news_of_block (cs := (M.flatMap C.g).toArray) (t := C.e) (fr := (0, 0)) hb) (fun u hu => by
      obtain ⟨x, _, hx⟩ := List.mem_flatMap.1 hu
      exact hC.one x u hx)) (by unfold maxLen; omega) (by
      have : (L.length + M.length) * C.bytes ≤ 1000001000 * 128 := Nat.mul_le_mul (by omega) hs
      omega)
  refine ⟨v', w', hr, ?_, chg_grown hg, fun k hk' => ?_⟩
  · unfold Lst
    rw [List.flatMap_append, List.length_append]
    exact hown
  · rcases hk with e | e
    · exact .inl (by rw [← e]; exact hk')
    · rw [e] at hk'; injection hk' with hk'; right; omega
theorem wp_lst_apps (hC : C.Ok) (W : World) (s x : Operand) (ho : o.op = .call { callee := .builtin .append, args := #[s, x], argTypes := #[C.s, C.s] }) (L M : List α) (v : Value) (hs : a.eval s = v) (hv : Lst C W v L)
    (b : Nat) (hx : a.eval x = .slice (some ⟨b, 0, none⟩) M.length M.length) (hL : L.length ≤ 1000000000) (hM : M.length ≤ 1000) (hb : Blk W b C.e (M.flatMap C.g).toArray)
    (h : ∀ v' w', Lst C w' v' (L ++ M) → Chg (fun k => v.ownBlock = some k) W w' → (∀ k, v'.ownBlock = some k → v.ownBlock = some k ∨ W.heap.size ≤ k) → K (a.put o.dst v') w') : Oper.wp Tryz.prog o a W K Q := by
  obtain ⟨v', w', hr, h2, h3, h4⟩ := run_lst_apps hC W o.type L M v hv b hb hL hM
  unfold Oper.wp execOp
  simp only [ho, resolve, invoke, builtin, Sem.run_bind, Sem.run_pure, Result.andThen_ok, List.map_toArray, List.map_cons, List.map_nil, hs, hx, hr]
  exact h v' w' h2 h3 h4
theorem step_lst_apps (hC : C.Ok) (W : World) (hgd : o.guard = none) (s x : Operand) (ho : o.op = .call { callee := .builtin .append, args := #[s, x], argTypes := #[C.s, C.s] }) (L M : List α) (v : Value) (hs : a.eval s = v) (hv : Lst C W v L)
    (b : Nat) (hx : a.eval x = .slice (some ⟨b, 0, none⟩) M.length M.length) (hL : L.length ≤ 1000000000) (hM : M.length ≤ 1000) (hb : Blk W b C.e (M.flatMap C.g).toArray)
    (h : ∀ v' w', Lst C w' v' (L ++ M) → Chg (fun k => v.ownBlock = some k) W w' → (∀ k, v'.ownBlock = some k → v.ownBlock = some k ∨ W.heap.size ≤ k) → K (a.put o.dst v') w') :
    if Region.wanted o (yielded ops a.tmps) = true then Oper.wp Tryz.prog o a W K Q else E := by
  have hw : Region.wanted o (yielded ops a.tmps) = true := by simp [Region.wanted, hgd]
  rw [if_pos hw]
  exact wp_lst_apps hC W s x ho L M v hs hv b hx hL hM hb h
end
end Go.Proofs.YtljabmkmngbhkaaGreatDoor
namespace Go.Proofs.YtljabmkmngbhkaaGreatDoor
set_option linter.unusedVariables false
set_option linter.unusedSimpArgs false

/-! ### The order of strings -/
/-- a < b. -/
def sl (a b : ByteArray) : Bool := Op.bytesLess a.toList b.toList
theorem toList_inj {a b : ByteArray} (h : a.toList = b.toList) : a = b := by
  rw [ByteArray.toList_eq, ByteArray.toList_eq] at h
  cases a; cases b; simp at h; subst h; rfl
theorem sl_eq (a b : ByteArray) : sl a b = decide (a.toList < b.toList) := bytesLess_eq _ _
theorem sl_irrefl (a : ByteArray) : sl a a = false := by rw [sl_eq]; simp [List.lt_irrefl]
theorem sl_trans {a b c : ByteArray} (h1 : sl a b = true) (h2 : sl b c = true) : sl a c = true := by
  rw [sl_eq] at *; simp at *; exact List.lt_trans h1 h2
theorem sl_total {a b : ByteArray} (h1 : sl a b = false) (h2 : sl b a = false) : a = b := by
  rw [sl_eq] at *; simp at *
  exact toList_inj (List.le_antisymm h2 h1)
theorem sl_ntrans {a b c : ByteArray} (h1 : sl a b = false) (h2 : sl b c = false) : sl a c = false := by
  rw [sl_eq] at *; simp at *; exact List.le_trans h2 h1
theorem sl_le_lt {a b c : ByteArray} (h1 : sl b a = false) (h2 : sl b c = true) : sl a c = true := by
  cases h : sl a c with
  | true => rfl
  | false => have := sl_ntrans h1 h; rw [h2] at this; cases this
/-! ### Tables, edits, versions -/
structure MetaV where
  file : Int
  size : Int
  lo : ByteArray
  hi : ByteArray
structure PlaceV where
  level : Int
  m : MetaV
structure EditV where
  add : List PlaceV
  drop : List Int
  log : Int
  next : Int
  seq : Int
/-- A version: the levels 0 to 3 (lv), and three numbers. -/
structure VerV where
  lv : Nat → List MetaV
  log : Int
  next : Int
  seq : Int
def VerV.none : VerV := ⟨fun _ => [], 0, 0, 0⟩
def atLevel (i : Nat) (l : List MetaV) : List PlaceV := l.map fun m => ⟨(i : Int), m⟩
/-- All tables, level by level: the document's list. -/
def flat (S : VerV) : List PlaceV := atLevel 0 (S.lv 0) ++ (atLevel 1 (S.lv 1) ++ (atLevel 2 (S.lv 2) ++ atLevel 3 (S.lv 3)))
def filesOf (l : List PlaceV) : List Int := l.map fun p => p.m.file

/-- Does one table stand ahead of another, of level i? -/
def before (i : Nat) (a b : MetaV) : Bool := if i = 0 then decide (b.file < a.file) else sl a.lo b.lo
/-- x put into l ahead of the first one that it stands ahead of. -/
def insG {α : Type} (f : α → α → Bool) (x : α) : List α → List α
  | [] => [x]
  | y :: r => if f x y then x :: y :: r else y :: insG f x r
def okNums (S : VerV) (E : EditV) : Prop := ¬ (E.log < S.log ∨ E.next < S.next ∨ E.seq < S.seq) ∧ ¬ (E.log ≥ E.next ∧ ¬ (E.log = 0 ∧ E.next = 0))
def okDrops (files : List Int) (drop : List Int) : Prop := (∀ f ∈ drop, f ∈ files) ∧ drop.Nodup
def goodP (next : Int) (p : PlaceV) : Prop := 0 ≤ p.level ∧ p.level < 4 ∧ 0 ≤ p.m.file ∧ p.m.file < next ∧ 0 ≤ p.m.size ∧ sl p.m.hi p.m.lo = false
def okAdds (files : List Int) (next : Int) (add : List PlaceV) : Prop := (∀ p ∈ add, goodP next p ∧ p.m.file ∉ files) ∧ (add.map fun p => p.m.file).Nodup
/-- Two tables have no key in common. -/
def Apart (a b : MetaV) : Prop := sl a.hi b.lo = true ∨ sl b.hi a.lo = true
theorem Apart.symm {a b : MetaV} (h : Apart a b) : Apart b a := h.elim .inr .inl

def kept (drop : List Int) (l : List MetaV) : List MetaV := l.filter fun m => !drop.contains m.file
def keptP (drop : List Int) (l : List PlaceV) : List PlaceV := l.filter fun p => !drop.contains p.m.file
/-- The tables that an edit adds to level i, put in one by one. -/
def addTo (i : Nat) (add : List PlaceV) (l : List MetaV) : List MetaV := add.foldl (fun l p => if p.level = (i : Int) then insG (before i) p.m l else l) l
/-- The version behind an edit, if it may be. -/
def nextV (S : VerV) (E : EditV) : VerV := ⟨fun i => addTo i E.add (kept E.drop (S.lv i)), E.log, E.next, E.seq⟩
def okV (S : VerV) (E : EditV) : Prop := okNums S E ∧ okDrops (filesOf (flat S)) E.drop ∧ okAdds (filesOf (flat S)) E.next E.add ∧ ∀ i, 1 ≤ i → i < 4 → ((nextV S E).lv i).Pairwise Apart
/-! ### What holds of every version -/
structure Good (S : VerV) : Prop where
  files : (filesOf (flat S)).Nodup
  zero : (S.lv 0).Pairwise fun a b => b.file < a.file
  rest : ∀ i, 1 ≤ i → i < 4 → (S.lv i).Pairwise fun a b => sl a.hi b.lo = true
  ends : ∀ i, i < 4 → ∀ m ∈ S.lv i, sl m.hi m.lo = false ∧ 0 ≤ m.file ∧ m.file < S.next
  nums : S.log < S.next ∨ S.log = 0 ∧ S.next = 0
theorem Good.none : Good VerV.none := ⟨by simp [filesOf, flat, atLevel, VerV.none], by simp [VerV.none], by simp [VerV.none], by simp [VerV.none], .inr ⟨rfl, rfl⟩⟩

/-! ### Lists that are sorted -/
section
variable {α : Type} {f : α → α → Bool}
theorem insG_perm (x : α) : ∀ l : List α, (insG f x l).Perm (x :: l)
  | [] => List.Perm.refl _
  | y :: r => by
    unfold insG
    split
    · exact List.Perm.refl _
    · exact ((insG_perm x r).cons y).trans (List.Perm.swap x y r)
theorem insG_mem {x y : α} {l : List α} : y ∈ insG f x l ↔ y = x ∨ y ∈ l := by rw [(insG_perm x l).mem_iff]; simp
/-- Weakly sorted: no later one stands ahead of an earlier one. -/
def Sorted (f : α → α → Bool) (l : List α) : Prop := l.Pairwise fun a b => f b a = false
theorem insG_sorted (ht : ∀ a b c, f a b = true → f b c = true → f a c = true) (hn : ∀ a b c, f a b = false → f b c = false → f a c = false) (hi : ∀ a, f a a = false) (x : α) : ∀ l : List α, Sorted f l → Sorted f (insG f x l)
  | [], _ => by simp [insG, Sorted]
  | y :: r, h => by
    unfold Sorted at h
    obtain ⟨h1, h2⟩ := List.pairwise_cons.1 h
    unfold insG
    split
    · rename_i hxy
      refine List.pairwise_cons.2 ⟨fun z hz => ?_, h⟩
      rcases List.mem_cons.1 hz with rfl | hz
      · cases hc : f z x with
        | false => rfl
        | true => have := ht _ _ _ hxy hc; rw [hi] at this; cases this
      · cases hc : f z x with
        | false => rfl
        | true =>
          have := ht _ _ _ hc hxy
          rw [h1 z hz] at this; cases this
    · rename_i hxy
      refine List.pairwise_cons.2 ⟨fun z hz => ?_, insG_sorted ht hn hi x r h2⟩
      rcases insG_mem.1 hz with rfl | hz
      · simpa using hxy
      · exact h1 z hz
end
theorem before_irrefl (i : Nat) (a : MetaV) : before i a a = false := by
  unfold before; split
  · simp
  · exact sl_irrefl _
theorem before_trans (i : Nat) (a b c : MetaV) (h1 : before i a b = true) (h2 : before i b c = true) : before i a c = true := by
  unfold before at *
  by_cases h : i = 0
  · simp only [h, if_true, decide_eq_true_eq] at *; omega
  · simp only [h, if_false] at *; exact sl_trans h1 h2
theorem before_ntrans (i : Nat) (a b c : MetaV) (h1 : before i a b = false) (h2 : before i b c = false) : before i a c = false := by
  unfold before at *
  by_cases h : i = 0
  · simp only [h, if_true, decide_eq_false_iff_not] at *; omega
  · simp only [h, if_false] at *; exact sl_ntrans h1 h2
end Go.Proofs.YtljabmkmngbhkaaGreatDoor
namespace Go.Proofs.YtljabmkmngbhkaaGreatDoor
open Go.RowKit
set_option linter.unusedVariables false
set_option linter.unusedSimpArgs false

structure EntryV where
  key : ByteArray
  seq : Int
  gone : Bool
  value : ByteArray
  till : Int
/-- The order of entries. -/
def cmpE (a b : EntryV) : Int := if sl a.key b.key then -1 else if sl b.key a.key then 1 else if b.seq < a.seq then -1 else if a.seq < b.seq then 1 else 0
def lessE (a b : EntryV) : Bool := decide (cmpE a b < 0)
theorem sl_ne {a b : ByteArray} (h : sl a b = true) : a ≠ b := fun e => by subst e; rw [sl_irrefl] at h; cases h
theorem lessE_iff {a b : EntryV} : lessE a b = true ↔ sl a.key b.key = true ∨ (a.key = b.key ∧ b.seq < a.seq) := by
  unfold lessE cmpE
  cases h1 : sl a.key b.key
  · cases h2 : sl b.key a.key
    · have := sl_total h1 h2
      by_cases h3 : b.seq < a.seq
      · simp [h3, this]
      · by_cases h4 : a.seq < b.seq <;> simp [h3, h4]
    · have : a.key ≠ b.key := fun e => sl_ne h2 e.symm
      simp [this]
  · simp
theorem lessE_trans {a b c : EntryV} (h1 : lessE a b = true) (h2 : lessE b c = true) : lessE a c = true := by
  rw [lessE_iff] at *
  rcases h1 with h1 | ⟨e1, h1⟩ <;> rcases h2 with h2 | ⟨e2, h2⟩
  · exact .inl (sl_trans h1 h2)
  · exact .inl (e2 ▸ h1)
  · exact .inl (e1 ▸ h2)
  · exact .inr ⟨e1.trans e2, by omega⟩
theorem cmpE_zero {a b : EntryV} : cmpE a b = 0 ↔ a.key = b.key ∧ a.seq = b.seq := by
  unfold cmpE
  cases h1 : sl a.key b.key
  · cases h2 : sl b.key a.key
    · have := sl_total h1 h2
      by_cases h3 : b.seq < a.seq
      · simp [h3]; omega
      · by_cases h4 : a.seq < b.seq
        · simp [h3, h4]; omega
        · simp [h3, h4, this]; omega
    · have : a.key ≠ b.key := fun e => sl_ne h2 e.symm
      simp [this]
  · have := sl_ne h1
    simp [this]
theorem lessE_total {a b : EntryV} (h1 : lessE a b = false) (h2 : cmpE a b ≠ 0) : lessE b a = true := by
  have hn : ¬ (sl a.key b.key = true ∨ (a.key = b.key ∧ b.seq < a.seq)) := fun e => by rw [lessE_iff.2 e] at h1; cases h1
  rw [lessE_iff]
  cases h3 : sl b.key a.key
  · have h4 : sl a.key b.key = false := by
      cases h : sl a.key b.key
      · rfl
      · exact absurd (.inl h) hn
    have e := sl_total h3 h4
    have : ¬ (a.key = b.key ∧ a.seq = b.seq) := fun x => h2 (cmpE_zero.2 x)
    refine .inr ⟨e, ?_⟩
    rcases Int.lt_trichotomy b.seq a.seq with h | h | h
    · exact absurd (.inr ⟨e.symm, h⟩) hn
    · exact absurd ⟨e.symm, h.symm⟩ this
    · exact h
  · exact .inl rfl
/-- A tower: its entry, how high it is, its block, the block of its links. -/
structure NodeV where
  e : EntryV
  h : Nat
  b : Nat
  nb : Nat
def OrdN (N : List NodeV) : Prop := N.Pairwise fun a b => lessE a.e b.e = true
/-- The first tower that reaches a floor. -/
def nextF (D : List NodeV) (f : Nat) : Option NodeV := D.find? fun m => decide (f < m.h)
def tptr : Option NodeV → Value
  | none => .pointer none
  | some n => .pointer (some ⟨n.b, 0, none⟩)
theorem nextF_app (A B : List NodeV) (f : Nat) : nextF (A ++ B) f = (nextF A f).or (nextF B f) := by unfold nextF; exact List.find?_append
theorem nextF_none {D : List NodeV} {f : Nat} : nextF D f = none ↔ ∀ m ∈ D, m.h ≤ f := by
  unfold nextF
  rw [List.find?_eq_none]
  constructor
  · intro h m hm; have := h m hm; simp at this; exact this
  · intro h m hm; have := h m hm; simp; exact this
theorem nextF_some {D : List NodeV} {f : Nat} {m : NodeV} (h : nextF D f = some m) : ∃ A B, D = A ++ m :: B ∧ f < m.h ∧ ∀ x ∈ A, x.h ≤ f := by
  unfold nextF at h
  obtain ⟨h1, A, B, rfl, h2⟩ := List.find?_eq_some_iff_append.1 h
  exact ⟨A, B, rfl, by simpa using h1, fun x hx => by have := h2 x hx; simpa using this⟩
/-- The towers ahead of an entry, and the others. -/
def aheadN (N : List NodeV) (e : EntryV) : List NodeV := N.takeWhile fun m => lessE m.e e
def behindN (N : List NodeV) (e : EntryV) : List NodeV := N.dropWhile fun m => lessE m.e e
theorem split_N (N : List NodeV) (e : EntryV) : N = aheadN N e ++ behindN N e := (List.takeWhile_append_dropWhile).symm
theorem aheadN_less {N : List NodeV} {e : EntryV} {m : NodeV} (h : m ∈ aheadN N e) : lessE m.e e = true := by
  unfold aheadN at h
  induction N with
  | nil => cases h
  | cons a r ih =>
    rw [List.takeWhile_cons] at h
    split at h
    · rcases List.mem_cons.1 h with rfl | h
      · assumption
      · exact ih h
    · cases h
theorem behindN_not {N : List NodeV} {e : EntryV} (ho : OrdN N) {m : NodeV} (h : m ∈ behindN N e) : lessE m.e e = false := by
  unfold behindN at h
  cases hd : N.dropWhile fun m => lessE m.e e with
  | nil => rw [hd] at h; cases h
  | cons x r =>
    have hx : lessE x.e e = false := by
      have := List.head?_dropWhile_not (fun m : NodeV => lessE m.e e) N
      rw [hd] at this
      simpa using this
    rw [hd] at h
    rcases List.mem_cons.1 h with rfl | h
    · exact hx
    · have hs : (x :: r).Sublist N := by rw [← hd]; exact List.dropWhile_sublist _
      have hp := (List.pairwise_cons.1 (ho.sublist hs)).1 m h
      cases hme : lessE m.e e
      · rfl
      · rw [lessE_trans hp hme] at hx; cases hx
/-- Where the search stands at a floor: the last tower ahead that reaches it; none: the head. -/
def AtN (T : List NodeV) (f : Nat) (a : Option NodeV) : Prop := ∃ A R, T = A ++ R ∧ A.getLast? = a ∧ ∀ n, a = some n → f < n.h
def LastN (T : List NodeV) (f : Nat) (a : Option NodeV) : Prop := ∃ A R, T = A ++ R ∧ A.getLast? = a ∧ (∀ n, a = some n → f < n.h) ∧ ∀ m ∈ R, m.h ≤ f
theorem LastN.at_ {T : List NodeV} {f : Nat} {a : Option NodeV} (h : LastN T f a) {g : Nat} (hg : g ≤ f) : AtN T g a := by
  obtain ⟨A, R, e, h1, h2, _⟩ := h
  exact ⟨A, R, e, h1, fun n hn => Nat.lt_of_le_of_lt hg (h2 n hn)⟩
theorem AtN.start (T : List NodeV) (f : Nat) : AtN T f none := ⟨[], T, rfl, rfl, fun n h => by cases h⟩
theorem getLast_app {A R : List NodeV} {m : NodeV} : (A ++ (R ++ [m])).getLast? = some m := by rw [← List.append_assoc, List.getLast?_append]; simp
/-! ### One tower more -/
def putN (N : List NodeV) (x : NodeV) : List NodeV := aheadN N x.e ++ x :: behindN N x.e
theorem putN_ord {N : List NodeV} {x : NodeV} (ho : OrdN N) (hn : ∀ m ∈ N, cmpE m.e x.e ≠ 0) : OrdN (putN N x) := by
  have hs := split_N N x.e
  unfold putN OrdN
  rw [hs] at ho
  obtain ⟨h1, h2, h3⟩ := List.pairwise_append.1 ho
  rw [← hs] at ho
  rw [List.pairwise_append, List.pairwise_cons]
  refine ⟨h1, ⟨fun m hm => ?_, h2⟩, fun a ha b hb => ?_⟩
  · have := behindN_not ho hm
    exact lessE_total this (hn m (by rw [hs]; exact List.mem_append_right _ hm))
  · rcases List.mem_cons.1 hb with rfl | hb
    · exact aheadN_less ha
    · exact h3 a ha b hb
theorem putN_len (N : List NodeV) (x : NodeV) : (putN N x).length = N.length + 1 := by
  have := congrArg List.length (split_N N x.e)
  rw [List.length_append] at this
  unfold putN
  rw [List.length_append, List.length_cons]
  omega
/-- What the links of a tower ahead hold when the new one is linked on the floors below k. -/
def linkF (R D : List NodeV) (x : NodeV) (k f : Nat) : Option NodeV := if f < k then nextF (R ++ x :: D) f else nextF (R ++ D) f
theorem linkF_zero (R D : List NodeV) (x : NodeV) (f : Nat) : linkF R D x 0 f = nextF (R ++ D) f := by simp [linkF]
theorem linkF_all (R D : List NodeV) (x : NodeV) {k f : Nat} (h : x.h ≤ k) : linkF R D x k f = nextF (R ++ x :: D) f := by
  unfold linkF
  split
  · rfl
  · rename_i hf
    rw [nextF_app, nextF_app]
    congr 1
    unfold nextF
    rw [List.find?_cons_of_neg (by simp; omega)]
/-- A tower that is not the last one ahead on floor k keeps its link. -/
theorem linkF_keep {T D : List NodeV} {x n : NodeV} {k : Nat} {a : Option NodeV} {A' R' : List NodeV} (ha : LastN T k a) (hT : T = A' ++ n :: R') (hne : a ≠ some n) (hh : k < n.h) : nextF (R' ++ x :: D) k = nextF (R' ++ D) k := by
  obtain ⟨A, R, e, h1, h2, h3⟩ := ha
  have hmem : ∃ m ∈ R', k < m.h := by
    rw [e] at hT
    rcases List.append_eq_append_iff.1 hT with ⟨C, h4, h5⟩ | ⟨C, h4, h5⟩
    · -- A' = A ++ C, R = C ++ n :: R'
      exact absurd (h3 n (by rw [h5]; simp)) (by omega)
    · -- A = A' ++ C, n :: R' = C ++ R
      cases C with
      | nil =>
        simp at h5
        exact absurd (h3 n (by rw [← h5]; simp)) (by omega)
      | cons y C =>
        simp only [List.cons_append, List.cons.injEq] at h5
        obtain ⟨rfl, h5⟩ := h5
        cases hC : C.getLast? with
        | none =>
          have : C = [] := by simpa using hC
          subst this
          rw [h4] at h1
          simp at h1
          exact absurd h1.symm hne
        | some m =>
          have hm : A.getLast? = some m := by rw [h4, List.getLast?_append, List.getLast?_cons, hC]; simp
          rw [hm] at h1
          exact ⟨m, by rw [h5]; exact List.mem_append_left _ (List.mem_of_getLast? hC), h2 m h1.symm⟩
  rw [nextF_app, nextF_app]
  cases hr : nextF R' k with
  | some m => simp
  | none =>
    obtain ⟨m, hm, hk⟩ := hmem
    have := nextF_none.1 hr m hm
    omega
theorem head_keep {T D : List NodeV} {x : NodeV} {k : Nat} {n : NodeV} (ha : LastN T k (some n)) : nextF (T ++ x :: D) k = nextF (T ++ D) k := by
  obtain ⟨A, R, e, h1, h2, h3⟩ := ha
  have hn : n ∈ T := by rw [e]; exact List.mem_append_left _ (List.mem_of_getLast? h1)
  rw [nextF_app, nextF_app]
  cases hr : nextF T k with
  | some m => simp
  | none =>
    have := nextF_none.1 hr n hn
    have := h2 n rfl
    omega
/-- The last one ahead: what it was linked with, and what it is linked with then. -/
theorem last_link {T D : List NodeV} {x : NodeV} {k : Nat} {a : Option NodeV} (hx : k < x.h) (ha : LastN T k a) : (∀ n, a = some n → ∃ A' R', T = A' ++ n :: R' ∧ nextF (R' ++ D) k = nextF D k ∧ nextF (R' ++ x :: D) k = some x) ∧ (a = none → nextF (T ++ D) k = nextF D k ∧ nextF (T ++ x :: D) k = some x) := by
  obtain ⟨A, R, e, h1, h2, h3⟩ := ha
  have hr : nextF R k = none := nextF_none.2 h3
  have hx' : nextF (x :: D) k = some x := by unfold nextF; rw [List.find?_cons_of_pos (by simpa using hx)]
  refine ⟨fun n hn => ?_, fun hn => ?_⟩
  · subst hn
    obtain ⟨ys, rfl⟩ := List.getLast?_eq_some_iff.1 h1
    refine ⟨ys, R, by rw [e]; simp, ?_, ?_⟩
    · rw [nextF_app, hr]; rfl
    · rw [nextF_app, hr, hx']; rfl
  · subst hn
    have hA : A = [] := by simpa using h1
    subst hA
    rw [List.nil_append] at e
    subst e
    exact ⟨by rw [nextF_app, hr]; rfl, by rw [nextF_app, hr, hx']; rfl⟩
end Go.Proofs.YtljabmkmngbhkaaGreatDoor
namespace Go.Proofs.YtljabmkmngbhkaaGreatDoor
open Go.RowKit
set_option linter.unusedVariables false
set_option linter.unusedSimpArgs false

/-- How high the next tower is. -/
def coinV (c : Int) : Int := if c < 0 then -(c + 1) else c
def heightV (coins : List Int) (n : Nat) : Nat := if coins.length = 0 then 1 else 1 + ((coinV (coins.getD (n % coins.length) 0)).toNat) % 8
theorem heightV_le (coins : List Int) (n : Nat) : 1 ≤ heightV coins n ∧ heightV coins n ≤ 8 := by
  unfold heightV
  split <;> omega
theorem at_cases {T D A R : List NodeV} {f : Nat} {e : EntryV} (hT : ∀ m ∈ T, lessE m.e e = true) (hD : ∀ m ∈ D, lessE m.e e = false) (h : T = A ++ R) (ha : ∀ n, A.getLast? = some n → f < n.h) :
    (∃ R1 m R2, R = R1 ++ m :: R2 ∧ nextF (R ++ D) f = some m ∧ lessE m.e e = true ∧ T = (A ++ (R1 ++ [m])) ++ R2 ∧ (A ++ (R1 ++ [m])).getLast? = some m ∧ f < m.h) ∨
    (LastN T f A.getLast? ∧ nextF (R ++ D) f = nextF D f ∧ ∀ m, nextF D f = some m → m ∈ D ∧ lessE m.e e = false) := by
  cases hr : nextF R f with
  | some m =>
    obtain ⟨R1, R2, rfl, h1, h2⟩ := nextF_some hr
    refine .inl ⟨R1, m, R2, rfl, ?_, hT m (by rw [h]; simp), by rw [h]; simp, getLast_app, h1⟩
    rw [nextF_app, hr]
    rfl
  | none =>
    refine .inr ⟨⟨A, R, h, rfl, ha, nextF_none.1 hr⟩, by rw [nextF_app, hr]; rfl, fun m hm => ?_⟩
    obtain ⟨B, C, hD', _, _⟩ := nextF_some hm
    have hmem : m ∈ D := by rw [hD']; simp
    exact ⟨hmem, hD m hmem⟩
/-- On the ground floor stand all. -/
theorem LastN.ground {T : List NodeV} {a : Option NodeV} (h : LastN T 0 a) (ht : ∀ m ∈ T, 1 ≤ m.h) : a = T.getLast? := by
  obtain ⟨A, R, e, h1, _, h3⟩ := h
  cases R with
  | nil => rw [e, List.append_nil, h1]
  | cons m R =>
    have h4 := h3 m (by simp)
    have h5 := ht m (by rw [e]; simp)
    omega
theorem nextF_ground {D : List NodeV} (h : ∀ m ∈ D, 1 ≤ m.h) : nextF D 0 = D.head? := by
  cases D with
  | nil => rfl
  | cons m D =>
    have := h m (by simp)
    unfold nextF
    rw [List.find?_cons_of_pos (by simp; omega)]
    rfl
/-- The list stands in order: the next behind all that are ahead. -/
theorem mem_ahead {N : List NodeV} {e : EntryV} {m : NodeV} (h : m ∈ aheadN N e) : m ∈ N := by rw [split_N N e]; exact List.mem_append_left _ h
theorem mem_behind {N : List NodeV} {e : EntryV} {m : NodeV} (h : m ∈ behindN N e) : m ∈ N := by rw [split_N N e]; exact List.mem_append_right _ h
/-- What a key has, up to a number. -/
def keyE (k : ByteArray) (seq : Int) : EntryV := ⟨k, seq, false, ⟨#[]⟩, 0⟩
def getN (N : List NodeV) (k : ByteArray) (seq : Int) : Option NodeV := match (behindN N (keyE k seq)).head? with
  | none => none
  | some n => if n.e.key = k then some n else none
end Go.Proofs.YtljabmkmngbhkaaGreatDoor
