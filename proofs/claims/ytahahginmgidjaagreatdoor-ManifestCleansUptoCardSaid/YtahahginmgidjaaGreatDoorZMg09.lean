/-
  A disk of the call's own beside blocks that it leaves alone: every call in one form. Plain lemmas over the disk's contracts; no condition.
  The names of a disk's map, as the shelf's contracts on maps.Keys and slices.Sorted want them.
  The disk: List.
  The check sum of bytes, as plain numbers; one byte more or less makes another sum. Plain Lean; no program; no condition.
  Frames as plain bytes: what Put makes, what Get and All find. Plain Lean; no program; no condition.
  The program's frame: Sum.
  The program's frame: Put.
-/
import Derived.Test.YtahahginmgidjaaGreatDoorZMg08
import Derived.Sort.KeysCollected
import Derived.Test.YtahahginmgidjaaGreatDoorIter
import Derived.WalkKit
import Derived.Test.YtahahginmgidjaaGreatDoorZMg00
import Derived.Test.YtahahginmgidjaaGreatDoorProg
import Derived.IntWalk
import Derived.Laws.BitsAllLaws
import Derived.Test.YtahahginmgidjaaGreatDoorZMg07
import Derived.Deep.DeepCutAuto
import Derived.Outline
namespace Go.Proofs.YtahahginmgidjaaGreatDoor
open Go.RowKit
set_option linter.unusedVariables false
set_option linter.unusedSimpArgs false

/-- The disk at d has D; it was made behind w0; the blocks of Y are none of its own. -/
def DY (w0 w : World) (d : Nat) (D : DiskV) (Y : Nat → Prop) : Prop :=
  ∃ ids M, DiskAt w d ids D M ∧ (∀ k, M k → w0.heap.size ≤ k) ∧ (∀ k, Y k → k < w.heap.size ∧ ¬ M k) ∧ Chg (fun _ => False) w0 w
/-- The blocks of Y are as they were. -/
def Kept (Y : Nat → Prop) (w w' : World) : Prop := Chg (fun k => ¬ Y k) w w'
section
variable {w0 w w' w1 w2 : World} {d : Nat} {D D' : DiskV} {Y Z : Nat → Prop} {ids : List Nat} {M : Nat → Prop} {g : Nat} {t : TypeId} {cs : Array Value}
theorem Kept.refl (Y : Nat → Prop) (w : World) : Kept Y w w := Chg.refl _ _
theorem Kept.then (h : Kept Y w w1) (h' : Kept Y w1 w2) : Kept Y w w2 := Chg.then h h'
theorem Kept.of_chg (h : Chg (fun _ => False) w w') : Kept Y w w' := h.mono fun _ _ h => h.elim
theorem Kept.mono (h : Kept Y w w') (hZ : ∀ k, Z k → Y k) : Kept Z w w' := Chg.mono h fun k _ hn hz => hn (hZ k hz)
theorem Blk.kept (h : Blk w g t cs) (hk : Kept Y w w') (hg : Y g) : Blk w' g t cs := h.chg hk fun hn => hn hg
theorem Kept.cell (h : Kept Y w w') {p : Addr} (hp : Y p.block) {v : Value} (hv : w.cell? p = some v) : w'.cell? p = some v := (Chg.cell h (World.block_lt_of_cell? w p hv) fun hn => hn hp).trans hv
theorem Lst.kept {α : Type} {C : Codec α} {v : Value} {l : List α} (h : Lst C w v l) (hk : Kept Y w w') (hv : ∀ k, v.ownBlock = some k → Y k) : Lst C w' v l := h.chg hk fun k e hn => hn (hv k e)
theorem DY.of (h : DState w0 w d D) : DY w0 w d D (fun _ => False) := by
  obtain ⟨ids, M, ha, hM, hc⟩ := h
  exact ⟨ids, M, ha, hM, fun _ h => h.elim, hc⟩
theorem DY.lt (h : DY w0 w d D Y) : ∀ k, Y k → k < w.heap.size := by
  obtain ⟨ids, M, ha, hM, hY, hc⟩ := h
  exact fun k hk => (hY k hk).1
theorem DY.frame (h : DY w0 w d D Y) : Chg (fun _ => False) w0 w := by
  obtain ⟨ids, M, ha, hM, hY, hc⟩ := h
  exact hc
theorem DY.ok (h : DY w0 w d D Y) : DiskOk D := by
  obtain ⟨ids, M, ha, hM, hY, hc⟩ := h
  exact ha.1
theorem DY.mono (h : DY w0 w d D Y) (hZ : ∀ k, Z k → Y k) : DY w0 w d D Z := by
  obtain ⟨ids, M, ha, hM, hY, hc⟩ := h
  exact ⟨ids, M, ha, hM, fun k hk => hY k (hZ k hk), hc⟩
theorem DY.same (h : DY w0 w d D Y) (hc : Chg (fun _ => False) w w') : DY w0 w' d D Y := by
  obtain ⟨ids, M, ha, hM, hY, hc0⟩ := h
  exact ⟨ids, M, ha.same hc, hM, fun k hk => ⟨Nat.lt_of_lt_of_le (hY k hk).1 hc.size, (hY k hk).2⟩, hc0.then hc⟩
/-- New blocks may be watched too. -/
theorem DY.grow (h : DY w0 w d D Y) (hc : Chg (fun _ => False) w w') : DY w0 w' d D (fun k => Y k ∨ (w.heap.size ≤ k ∧ k < w'.heap.size)) := by
  obtain ⟨ids, M, ha, hM, hY, hc0⟩ := h
  have hlt := ha.lt
  have hsz := hc.size
  refine ⟨ids, M, ha.same hc, hM, fun k hk => ?_, hc0.then hc⟩
  rcases hk with hk | hk
  · exact ⟨Nat.lt_of_lt_of_le (hY k hk).1 hsz, (hY k hk).2⟩
  · exact ⟨hk.2, fun e => by have := hlt k e; omega⟩
theorem DY.post (hM : ∀ k, M k → w0.heap.size ≤ k) (hY : ∀ k, Y k → k < w.heap.size ∧ ¬ M k) (hc : Chg (fun _ => False) w0 w) (h : DPost w d ids M D' w') : DY w0 w' d D' Y ∧ Kept Y w w' := by
  obtain ⟨ids', ha, _, hc2⟩ := h
  have hs := hc.size
  have hs2 := hc2.size
  refine ⟨⟨ids', _, ha, fun k hk => ?_, fun k hk => ⟨Nat.lt_of_lt_of_le (hY k hk).1 hs2, fun e => ?_⟩, hc.trans hc2 fun k hk e => by have := hM k e; omega⟩, hc2.mono fun k _ e hy => (hY k hy).2 e⟩
  · rcases hk with e | e
    · exact hM k e
    · omega
  · rcases e with e | e
    · exact (hY k hk).2 e
    · have := (hY k hk).1; omega
end
/-- What a call answers and does. -/
def YPost (w0 w : World) (d : Nat) (Y : Nat → Prop) (r : Int × DiskV) (e : Ending) (w' : World) : Prop := e = .returned (.int .i64 r.1) ∧ DY w0 w' d r.2 Y ∧ Kept Y w w'
section
variable (w0 : World) (d : Nat) (D : DiskV) (Y : Nat → Prop) (n : ByteArray) (hn : n.size ≤ maxLen) (hD : DSmall D) (w : World) (h : DY w0 w d D Y)
include hn hD h
theorem y_create : Calls Tryz.prog 8 #[.pointer (some ⟨d, 0, none⟩), .string n] w (YPost w0 w d Y (createD D n)) := by
  obtain ⟨ids, M, ha, hM, hY, hc⟩ := h
  exact (disk_create d ids D M n hn hD.q hD.f w ha).mono fun e w' ⟨he, hp⟩ => ⟨he, DY.post hM hY hc hp⟩
theorem y_append (s : ByteArray) (hs : s.size ≤ 140737488355328) : Calls Tryz.prog 66 #[.pointer (some ⟨d, 0, none⟩), .string n, .string s] w (YPost w0 w d Y (appendD D n s)) := by
  obtain ⟨ids, M, ha, hM, hY, hc⟩ := h
  exact (disk_append d ids D M n s hn hs hD.n hD.q w ha).mono fun e w' ⟨he, hp⟩ => ⟨he, DY.post hM hY hc hp⟩
theorem y_sync : Calls Tryz.prog 68 #[.pointer (some ⟨d, 0, none⟩), .string n] w (YPost w0 w d Y (syncD D n)) := by
  obtain ⟨ids, M, ha, hM, hY, hc⟩ := h
  exact (disk_sync d ids D M n hn hD.q w ha).mono fun e w' ⟨he, hp⟩ => ⟨he, DY.post hM hY hc hp⟩
theorem y_remove : Calls Tryz.prog 31 #[.pointer (some ⟨d, 0, none⟩), .string n] w (YPost w0 w d Y (removeD D n)) := by
  obtain ⟨ids, M, ha, hM, hY, hc⟩ := h
  exact (disk_remove d ids D M n hn hD.q w ha).mono fun e w' ⟨he, hp⟩ => ⟨he, DY.post hM hY hc hp⟩
omit hn in
theorem y_syncdir : Calls Tryz.prog 32 #[.pointer (some ⟨d, 0, none⟩)] w (YPost w0 w d Y (syncDirD D)) := by
  obtain ⟨ids, M, ha, hM, hY, hc⟩ := h
  exact (disk_syncdir d ids D M hD.q w ha).mono fun e w' ⟨he, hp⟩ => ⟨he, DY.post hM hY hc hp⟩
omit hD in
theorem y_read : Calls Tryz.prog 56 #[.pointer (some ⟨d, 0, none⟩), .string n] w fun e w' => e = .returned (.tuple #[.string (readD D n).1, .int .i64 (readD D n).2]) ∧ Chg (fun _ => False) w w' := by
  obtain ⟨ids, M, ha, hM, hY, hc⟩ := h
  exact disk_read d ids D M n hn w ha
end
end Go.Proofs.YtahahginmgidjaaGreatDoor
namespace Go.Proofs.YtahahginmgidjaaGreatDoor
open Go.RowKit Go.Maps Go.Sort Go.WideElems Go.WideShapes
set_option linter.unusedVariables false
set_option linter.unusedSimpArgs false

theorem nmap_owns {w : World} {b : Nat} {ids : List Nat} {l : Names} (h : NMap w b ids l) (hl : l.length ≤ maxLen) (ho : l.Pairwise fun a b => a.1 ≠ b.1) :
    ∃ D0 : DataW Unit, w.ownsMap Tryz.prog 9 (fun _ => some (.nil, [])) b l.length D0 ∧ Maps.size D0 = l.length ∧ (strKeys D0).Perm (l.map fun p => p.1.data.toList) := by
  obtain ⟨n, f, ⟨es, clock, hb, hsz, S⟩, ht, hn⟩ := h
  have F : Fit (H := Unit) Tryz.prog 9 (fun _ => some (.nil, [])) es clock := ⟨by omega, ⟨S.born, List.pairwise_map.2 S.ages, List.pairwise_map.2 S.apart⟩, fun x hx => by
    obtain ⟨k, hk⟩ := S.keys x hx
    exact ⟨_, rd_mk hk rfl⟩⟩
  refine ⟨_, ⟨es, clock, hb, F, by omega, rfl⟩, ?_, ?_⟩
  · show (((es.toList.map (rg Tryz.prog 9 (fun _ => some (.nil, [])))).foldr DataW.insert []).length) = _
    rw [(sorted_perm _).length_eq]
    simp; omega
  · obtain ⟨G, hG⟩ : ∃ G : MapEntry → List UInt8, G = (fun p => strOf p.1) ∘ rg (H := Unit) Tryz.prog 9 (fun _ => some (.nil, [])) := ⟨_, rfl⟩
    have hg : ∀ x ∈ es.toList, x.key = encStr (G x) := fun x hx => by
      obtain ⟨k, hk⟩ := S.keys x hx
      obtain ⟨s, hs, rfl, _⟩ := Maps.keyOf_str Tryz.underlying9 hk
      rw [hG, Function.comp, rg_of (rd_mk hk rfl)]
      exact hs
    refine ((sorted_perm _).map fun p => strOf p.1).trans ?_
    rw [List.map_map, ← hG]
    clear hG F
    refine (List.perm_ext_iff_of_nodup ?_ ?_).2 fun s => ?_
    · refine List.pairwise_map.2 (S.apart.imp_of_mem fun {a b} ha hb' hne e => hne ?_)
      rw [hg a ha, hg b hb', e]
    · refine List.pairwise_map.2 (ho.imp fun {a b} hne e => hne ?_)
      have := congrArg List.toArray e
      simp at this
      exact ByteArray.ext this
    · have hs := S.says (encStr s)
      constructor
      · intro h
        obtain ⟨x, hx, hxs⟩ := List.mem_map.1 h
        have hk := hg x hx
        rw [hxs] at hk
        obtain ⟨q, hq, hqk, _⟩ := (ht _ _).1 ((hs x.val).2 ⟨x, hx, hk, rfl⟩)
        refine List.mem_map.2 ⟨q, hq, ?_⟩
        simp only [encStr, Value.string.injEq] at hqk
        rw [← hqk]
      · intro h
        obtain ⟨q, hq, hqs⟩ := List.mem_map.1 h
        have hf := (ht (.string q.1) (fptr ids q.2)).2 ⟨q, hq, rfl, rfl⟩
        obtain ⟨x, hx, hxk, _⟩ := (S.says _ _).1 hf
        refine List.mem_map.2 ⟨x, hx, ?_⟩
        have hk := hg x hx
        rw [hxk] at hk
        simp only [encStr, Value.string.injEq] at hk
        rw [← hqs, hk]
end Go.Proofs.YtahahginmgidjaaGreatDoor
namespace Go.Proofs.YtahahginmgidjaaGreatDoor
open Go.RowKit Go.Maps Go.Sort
set_option linter.unusedVariables false
set_option linter.unusedSimpArgs false

def listD (D : DiskV) : List (List UInt8) := (D.names.map fun p => p.1.data.toList).mergeSort leB
set_option maxRecDepth 100000 in
set_option maxHeartbeats 2000000 in
theorem disk_list (d : Nat) (ids : List Nat) (D : DiskV) (M : Nat → Prop) (hn : D.names.length ≤ 1000000) (w : World) (h : DiskAt w d ids D M) :
    Calls Tryz.prog 10 #[.pointer (some ⟨d, 0, none⟩)] w fun e w' => ∃ v, e = .returned v ∧ w'.ownsRow w.heap.size 9 1 v (listD D).length ((listD D).map encStr) ∧ Chg (fun _ => False) w w' := by
  obtain ⟨hok, y, h⟩ := h
  have c2 := h.blk.cell 2
  simp at c2
  obtain ⟨D0, hown, hsize, hperm⟩ := nmap_owns h.names (by unfold maxLen; omega) hok.names.one
  have hk := callsIn_wide.1 (Tryz.maps_Keys_34 (some y.nm) w)
  have hs := callsIn_wide.1 (Tryz.slices_Sorted_keys_33_34 y.nm _ D0 _ w hown (by rw [hsize]; unfold maxLen; omega) (by rw [hsize]; omega))
  have hlist : ∀ ss : List (List UInt8), ss.Perm (strKeys D0) → ss.mergeSort (fun x y => decide (x ≤ y)) = listD D := fun ss hp => mergeSort_of_perm (hp.trans hperm)
  have HK := Lib.hid hk
  have HS := Lib.hid hs
  have HL := Lib.hid hlist
  clear hk hs hlist hown hsize hperm h hok
  go_enter Tryz.func10, Tryz.ntmps10
  go_wp2_with fail
  refine HK.out.mono ?_
  rintro e w1 ⟨rfl, rfl⟩
  go_wp2_with fail
  refine HS.out.mono ?_
  rintro e w2 ⟨v, ss, rfl, hp, hrow, hnil, hb⟩
  have hll := HL.out ss hp
  go_wp2_with fail
  go_ret
  have hlen : ss.length = (listD D).length := by rw [← hll, List.length_mergeSort]
  rw [hll, hlen] at hrow
  refine ⟨v, rfl, ?_, ?_⟩
  · obtain ⟨h1, h2⟩ := hrow
    refine ⟨h1, ?_⟩
    rcases h2 with h2 | ⟨g, cap, cur, a, b, c⟩
    · exact .inl h2
    · simp at b
      exact .inr ⟨g, cap, cur, a, by omega, c⟩
  · have hc0 : Chg (fun _ => False) w (w.alloc (.cells #[.map (some y.nm)] 72)) := by ((repeat (first | exact Chg.refl _ _ | assumption | refine Chg.drewN ?_ _ | refine Chg.drew ?_ | refine Chg.alloc ?_ _ | refine Chg.setCell ?_ (by first | (simp; done) | (simp; omega) | (intro h; simp at h; omega)) _)))
    exact hc0.then ⟨hb.os, hb.tape, hb.output, hb.size, fun k hk _ => hb.block k hk⟩
end Go.Proofs.YtahahginmgidjaaGreatDoor
namespace Go.Proofs.YtahahginmgidjaaGreatDoor
set_option linter.unusedVariables false
set_option linter.unusedSimpArgs false

def crcStep (c : Nat) : Nat := (c / 2) ^^^ (if c % 2 = 1 then 3988292384 else 0)
theorem crcStep_lt {c : Nat} (h : c < 4294967296) : crcStep c < 4294967296 := by
  unfold crcStep
  refine Nat.xor_lt_two_pow (n := 32) (by omega) ?_
  split <;> omega
def crcN : Nat → Nat → Nat
  | 0, c => c
  | n + 1, c => crcN n (crcStep c)
theorem crcN_succ (n c : Nat) : crcN (n + 1) c = crcStep (crcN n c) := by
  induction n generalizing c with
  | zero => rfl
  | succ n ih => exact ih (crcStep c)
theorem crcN_lt {c : Nat} (h : c < 4294967296) (n : Nat) : crcN n c < 4294967296 := by
  induction n generalizing c with
  | zero => exact h
  | succ n ih => exact ih (crcStep_lt h)
def crcByte (c : Nat) (b : UInt8) : Nat := crcN 8 (c ^^^ b.toNat)
theorem xor_byte_lt {c : Nat} (h : c < 4294967296) (b : UInt8) : c ^^^ b.toNat < 4294967296 := Nat.xor_lt_two_pow (n := 32) h (by have := b.toNat_lt; omega)
theorem crcByte_lt {c : Nat} (h : c < 4294967296) (b : UInt8) : crcByte c b < 4294967296 := crcN_lt (xor_byte_lt h b) 8
def crcF (c : Nat) (l : List UInt8) : Nat := l.foldl crcByte c
theorem crcF_lt {c : Nat} (h : c < 4294967296) (l : List UInt8) : crcF c l < 4294967296 := by
  induction l generalizing c with
  | nil => exact h
  | cons b l ih => exact ih (crcByte_lt h b)
/-- The sum. -/
def crcSum (l : List UInt8) : Nat := 4294967295 - crcF 4294967295 l
theorem crcSum_lt (l : List UInt8) : crcSum l < 4294967296 := by unfold crcSum; omega
theorem crcF_snoc (c : Nat) (l : List UInt8) (b : UInt8) : crcF c (l ++ [b]) = crcByte (crcF c l) b := by simp [crcF]
end Go.Proofs.YtahahginmgidjaaGreatDoor
namespace Go.Proofs.YtahahginmgidjaaGreatDoor
set_option linter.unusedVariables false
set_option linter.unusedSimpArgs false

def u8 (n : Nat) : UInt8 := UInt8.ofNat n
def fraHead (n c : Nat) : List UInt8 := [u8 (n / 256), u8 (n % 256), u8 (255 - n / 256), u8 (255 - n % 256), u8 (c / 16777216), u8 (c / 65536 % 256), u8 (c / 256 % 256), u8 (c % 256)]
/-- The frame of a body. -/
def fraB (b : List UInt8) : List UInt8 := fraHead b.length (crcSum b) ++ b
theorem u8_nat {n : Nat} (h : n < 256) : (u8 n).toNat = n := by
  unfold u8
  rw [UInt8.toNat_ofNat']
  omega
theorem fraB_len (b : List UInt8) : (fraB b).length = 8 + b.length := by
  unfold fraB fraHead
  rw [List.length_append]
  rfl
/-- The byte at a place, as a number. -/
def at8 (l : List UInt8) (i : Nat) : Nat := (l.getD i 0).toNat
def be4 (l : List UInt8) : Nat := at8 l 4 * 16777216 + at8 l 5 * 65536 + at8 l 6 * 256 + at8 l 7
def fraN (l : List UInt8) : Nat := at8 l 0 * 256 + at8 l 1
def fraBody (l : List UInt8) : List UInt8 := (l.drop 8).take (fraN l)
/-- What stands at the beginning of bytes: 0 and a body; or why there is none (10 nothing, 3 too short, 4 no head, 6 another sum). -/
def getF (l : List UInt8) : Nat :=
  if l.length = 0 then 10 else if l.length < 4 then 3 else
  if ¬ (at8 l 0 + at8 l 2 = 255 ∧ at8 l 1 + at8 l 3 = 255) then 4 else
  if l.length < 8 + fraN l then 3 else
  if be4 l ≠ crcSum (fraBody l) then 6 else 0
theorem getF_zero {l : List UInt8} (h : getF l = 0) : l.length ≠ 0 ∧ 8 + fraN l ≤ l.length ∧ be4 l = crcSum (fraBody l) ∧ (fraBody l).length = fraN l := by
  unfold getF at h
  split at h
  · cases h
  split at h
  · cases h
  split at h
  · cases h
  split at h
  · cases h
  split at h
  · cases h
  rename_i h0 h1 h2 h3 h4
  refine ⟨h0, by omega, by simpa using h4, ?_⟩
  unfold fraBody
  rw [List.length_take, List.length_drop]
  omega
/-- All bodies, and why they end. -/
def allF (l : List UInt8) : List (List UInt8) × Nat :=
  if h : getF l = 0 then
    have : (l.drop (8 + fraN l)).length < l.length := by
      have := getF_zero h
      rw [List.length_drop]; omega
    (fraBody l :: (allF (l.drop (8 + fraN l))).1, (allF (l.drop (8 + fraN l))).2)
  else ([], getF l)
termination_by l.length
theorem allF_yes {l : List UInt8} (h : getF l = 0) : allF l = (fraBody l :: (allF (l.drop (8 + fraN l))).1, (allF (l.drop (8 + fraN l))).2) := by
  rw [allF, dif_pos h]
theorem allF_no {l : List UInt8} (h : getF l ≠ 0) : allF l = ([], getF l) := by
  rw [allF, dif_neg h]
theorem at8_lt (l : List UInt8) (i : Nat) : at8 l i < 256 := (l.getD i 0).toNat_lt
/-- Bytes that begin as a frame does, up to a place behind its head's first half. -/
theorem head_at (b t : List UInt8) {i : Nat} (hi : i < 8) : at8 (fraB b ++ t) i = at8 (fraHead b.length (crcSum b)) i := by
  unfold at8 fraB
  rw [List.append_assoc]
  congr 1
  simp only [List.getD]
  rw [List.getElem?_append_left (show i < (fraHead b.length (crcSum b)).length from hi)]
theorem fraN_of {l b : List UInt8} (hb : b.length ≤ 65535) (h0 : at8 l 0 = at8 (fraHead b.length (crcSum b)) 0) (h1 : at8 l 1 = at8 (fraHead b.length (crcSum b)) 1) : fraN l = b.length := by
  unfold fraN
  rw [h0, h1]
  show (u8 (b.length / 256)).toNat * 256 + (u8 (b.length % 256)).toNat = b.length
  rw [u8_nat (by omega), u8_nat (by omega)]
  omega
theorem head_ok {l b : List UInt8} (hb : b.length ≤ 65535) (h : ∀ i, i < 4 → at8 l i = at8 (fraHead b.length (crcSum b)) i) : at8 l 0 + at8 l 2 = 255 ∧ at8 l 1 + at8 l 3 = 255 := by
  rw [h 0 (by omega), h 1 (by omega), h 2 (by omega), h 3 (by omega)]
  show (u8 (b.length / 256)).toNat + (u8 (255 - b.length / 256)).toNat = 255 ∧ (u8 (b.length % 256)).toNat + (u8 (255 - b.length % 256)).toNat = 255
  rw [u8_nat (by omega), u8_nat (by omega), u8_nat (by omega), u8_nat (by omega)]
  omega
theorem be4_of {l b : List UInt8} (h : ∀ i, i < 8 → at8 l i = at8 (fraHead b.length (crcSum b)) i) : be4 l = crcSum b := by
  unfold be4
  rw [h 4 (by omega), h 5 (by omega), h 6 (by omega), h 7 (by omega)]
  have := crcSum_lt b
  show (u8 (crcSum b / 16777216)).toNat * 16777216 + (u8 (crcSum b / 65536 % 256)).toNat * 65536 + (u8 (crcSum b / 256 % 256)).toNat * 256 + (u8 (crcSum b % 256)).toNat = _
  rw [u8_nat (by omega), u8_nat (by omega), u8_nat (by omega), u8_nat (by omega)]
  omega
/-- A frame is read back, whatever stands behind it. -/
theorem get_fra (b t : List UInt8) (hb : b.length ≤ 65535) : getF (fraB b ++ t) = 0 ∧ fraN (fraB b ++ t) = b.length ∧ fraBody (fraB b ++ t) = b := by
  have hh : ∀ i, i < 8 → at8 (fraB b ++ t) i = at8 (fraHead b.length (crcSum b)) i := fun i hi => head_at b t hi
  have hn := fraN_of hb (hh 0 (by omega)) (hh 1 (by omega))
  have hl : (fraB b ++ t).length = 8 + b.length + t.length := by rw [List.length_append, fraB_len]
  have hbody : fraBody (fraB b ++ t) = b := by
    unfold fraBody
    rw [hn]
    unfold fraB
    rw [List.append_assoc, List.drop_append_of_le_length (Nat.le_refl 8 : 8 ≤ (fraHead b.length (crcSum b)).length)]
    show (b ++ t).take b.length = b
    simp
  refine ⟨?_, hn, hbody⟩
  unfold getF
  rw [hbody, hn, be4_of hh, hl]
  rw [if_neg (by omega), if_neg (by omega), if_neg (fun h => h (head_ok hb fun i hi => hh i (by omega))), if_neg (by omega), if_neg (fun h => h rfl)]
theorem all_fra (b t : List UInt8) (hb : b.length ≤ 65535) : allF (fraB b ++ t) = (b :: (allF t).1, (allF t).2) := by
  obtain ⟨h1, h2, h3⟩ := get_fra b t hb
  rw [allF_yes h1, h2, h3]
  have : (fraB b ++ t).drop (8 + b.length) = t := by
    rw [← fraB_len b, List.drop_left]
  rw [this]
/-- Frames, one behind the other. -/
def frasB (l : List (List UInt8)) : List UInt8 := l.flatMap fraB
theorem all_fras : ∀ (l : List (List UInt8)) (t : List UInt8), (∀ b ∈ l, b.length ≤ 65535) → allF (frasB l ++ t) = (l ++ (allF t).1, (allF t).2)
  | [], t, _ => by simp [frasB]
  | b :: r, t, h => by
    have e : frasB (b :: r) ++ t = fraB b ++ (frasB r ++ t) := by simp [frasB]
    rw [e, all_fra b _ (h b (by simp)), all_fras r t fun x hx => h x (by simp [hx])]
    rfl
theorem all_nil : allF [] = ([], 10) := by
  rw [allF_no (by decide)]; rfl
end Go.Proofs.YtahahginmgidjaaGreatDoor
namespace Go.Proofs.YtahahginmgidjaaGreatDoor
open Go.RowKit
set_option linter.unusedVariables false
set_option linter.unusedSimpArgs false

theorem step_bits (d : Nat) (h : d < 4294967296) : bits .xor .u32 ((d : Int) / 2) ((d : Int) % 2 * 3988292384) = ((crcStep d : Nat) : Int) := by
  have e1 : (d : Int) / 2 = ((d / 2 : Nat) : Int) := by omega
  have e2 : (d : Int) % 2 * 3988292384 = ((if d % 2 = 1 then 3988292384 else 0 : Nat) : Int) := by
    split <;> omega
  rw [e1, e2]
  exact u32_xor_nat _ _ (by omega) (by split <;> omega)
theorem not_bits (d : Nat) (h : d < 4294967296) : bits .xor .u32 IntKind.u32.max (d : Int) = ((4294967295 - d : Nat) : Int) := by
  have := u32_xor_nat 4294967295 d (by omega) h
  rw [Nat.xor_comm, show (((4294967295 : Nat) : Int)) = IntKind.u32.max from rfl] at this
  rw [this]
  congr 1
  apply Nat.eq_of_testBit_eq
  intro i
  rw [Nat.testBit_xor]
  have h1 : (4294967295 : Nat) = 2 ^ 32 - 1 := by decide
  rw [h1, Nat.testBit_two_pow_sub_one, show 2 ^ 32 - 1 - d = 2 ^ 32 - (d + 1) by omega, Nat.testBit_two_pow_sub_succ (by omega)]
  by_cases hi : i < 32
  · simp [hi]
  · simp [hi]
    exact Nat.testBit_lt_two_pow (Nat.lt_of_lt_of_le h (show 4294967296 ≤ 2 ^ i from (show (4294967296 : Nat) = 2 ^ 32 by decide) ▸ Nat.pow_le_pow_right (by omega) (by omega)))
set_option maxRecDepth 100000 in
set_option maxHeartbeats 2000000 in
theorem fra_sum (s : ByteArray) (w : World) (hs : s.size ≤ 1000000000) : Calls Tryz.prog 105 #[.string s] w fun e w' => e = .returned (.int .u32 (crcSum s.data.toList)) ∧ w = w' := by
  go_enter Tryz.func105, Tryz.ntmps105
  go_wp2_with fail
  go_loop [3, 7] (fun c i => ∃ k : Nat, k ≤ s.size ∧ i = .int .i64 k ∧ c = .int .u32 (crcF 4294967295 (s.data.toList.take k) : Nat)) (fun _ i => s.size - (intOf i).toNat)
  case atStart => exact ⟨0, Nat.zero_le _, rfl, rfl⟩
  case round =>
    obtain ⟨k, hk, rfl, rfl⟩ := hrel
    obtain ⟨c, hc⟩ : ∃ c, crcF 4294967295 (s.data.toList.take k) = c := ⟨_, rfl⟩
    have hcl : c < 4294967296 := by rw [← hc]; exact crcF_lt (by omega) _
    rw [hc]
    by_cases hlt : k < s.size
    · have HC := Lib.hid hc
      clear hc
      have hb := s[k].toNat_lt
      have hx : bits .xor .u32 (c : Int) (s[k].toNat : Int) = ((c ^^^ s[k].toNat : Nat) : Int) := u32_xor_nat _ _ hcl (by omega)
      have hd0 := xor_byte_lt hcl s[k]
      obtain ⟨d0, hd⟩ : ∃ d, c ^^^ s[k].toNat = d := ⟨_, rfl⟩
      rw [hd] at hx hd0
      have HD := Lib.hid hd
      clear hd
      go_wp2_with fail
      go_loop [3, 16] (fun e j => ∃ m : Nat, m ≤ 8 ∧ j = .int .i64 m ∧ e = .int .u32 (crcN m d0 : Nat)) (fun _ j => 8 - (intOf j).toNat)
      case atStart => exact ⟨0, Nat.zero_le _, rfl, rfl⟩
      case round =>
        obtain ⟨m, hm, rfl, rfl⟩ := hrel
        have hml := crcN_lt hd0 m
        have hms := crcN_succ m d0
        obtain ⟨d, he⟩ : ∃ d, crcN m d0 = d := ⟨_, rfl⟩
        rw [he] at hml hms ⊢
        by_cases hlt8 : m < 8
        · have HE := Lib.hid hms
          clear he hms hx
          have ha : bits .and .u32 (d : Int) 1 = ((d % 2 : Nat) : Int) := by
            have := u32_and_nat d 1 hml (by omega)
            rw [Nat.and_one_is_mod] at this
            exact this
          have hst := step_bits d hml
          rw [← HE.out] at hst
          go_wp2_with fail
          refine ⟨⟨m + 1, by omega, by go_num, rfl⟩, by simp [intOf]; omega⟩
        · obtain rfl : m = 8 := by omega
          have hk1 : crcF 4294967295 (s.data.toList.take (k + 1)) = d := by
            have hlt' : k < s.data.toList.length := by simpa using hlt
            rw [List.take_succ_eq_append_getElem hlt', crcF_snoc, HC.out, ← he, ← HD.out]
            rfl
          have HK := Lib.hid hk1
          clear hk1 he hms hx
          go_wp2_with fail
          go_round
          case rel => exact ⟨k + 1, by omega, by go_num, by rw [HK.out]⟩
          case measure => simp [intOf]; omega
    · obtain rfl : k = s.size := by omega
      have hn := not_bits c hcl
      have he : crcSum s.data.toList = 4294967295 - c := by
        unfold crcSum
        rw [← hc, List.take_of_length_le (by simp)]
      have HE := Lib.hid he
      clear hc he
      go_wp2_with fail
      go_ret
      exact ⟨by rw [HE.out]; rfl, rfl⟩
end Go.Proofs.YtahahginmgidjaaGreatDoor
namespace Go.Proofs.YtahahginmgidjaaGreatDoor
open Go.RowKit
set_option linter.unusedVariables false
set_option linter.unusedSimpArgs false

theorem run_arr_string {w : World} {g : Nat} {T : TypeId} (hd : ByteArray) (h8 : hd.size = 8) (h : Blk w g T (byteCells hd).toArray) : (convert 88 9 (.slice (some ⟨g, 0, none⟩) 8 8)).run Tryz.prog w = .ok (.string hd) w := by
  rw [run_convert_bytes_string w 88 9 5 _ 8 8 Tryz.underlying88 Tryz.underlying5 Tryz.underlying9]
  have hn : (byteCells hd).length = 8 * 1 := by rw [byteCells_length, h8]
  have hcells : ∀ j u, (byteCells hd)[j]? = some u → w.cell? ((⟨g, 0, none⟩ : Addr).add j) = some u := fun j u hu => by
    have e : (⟨g, 0, none⟩ : Addr).add j = ⟨g, j, none⟩ := by rw [Addr.add_lit]; simp
    rw [e, h.cell j]
    simpa using hu
  have hl : (loadCells ⟨g, 0, none⟩ (8 * 1)).run Tryz.prog w = .ok (byteCells hd).toArray w := run_firstCells_some w 1 8 ⟨g, 0, none⟩ 8 8 (byteCells hd) hn hcells
  rw [Nat.mul_one] at hl
  have hb : byteCells hd = (hd.data.toList.map fun b => (b.toNat : Int)).map (Value.int .u8) := by unfold byteCells; rw [List.map_map]; rfl
  rw [hb] at hl
  rw [run_bytesToString w ⟨g, 0, none⟩ 8 8 _ hl, fold_push]
  simp
theorem not8 (d : Nat) (h : d < 256) : bits .xor .u8 IntKind.u8.max (d : Int) = ((255 - d : Nat) : Int) := by
  have e : ∀ d : Fin 256, 255 ^^^ d.val = 255 - d.val := by decide +kernel
  have := u8_xor_nat 255 d (by omega) h
  rw [e ⟨d, h⟩, show (((255 : Nat) : Int)) = IntKind.u8.max from rfl] at this
  exact this
def fraCells (n c k : Nat) : Array Value := #[.int .u8 ((n : Int) / 256), .int .u8 ((n : Int) % 256), .int .u8 ((255 - n / 256 : Nat) : Int), .int .u8 ((255 - n % 256 : Nat) : Int),
  if 0 < k then .int .u8 ((c : Int) / 16777216) else .int .u8 0, if 1 < k then .int .u8 ((c : Int) / 65536 % 256) else .int .u8 0, if 2 < k then .int .u8 ((c : Int) / 256 % 256) else .int .u8 0, if 3 < k then .int .u8 ((c : Int) % 256) else .int .u8 0]
theorem fraCells_all (n c : Nat) (hn : n ≤ 65535) (hc : c < 4294967296) : fraCells n c 4 = (byteCells ⟨(fraHead n c).toArray⟩).toArray := by
  have key : ∀ m : Nat, m < 256 → ∀ z : Int, z = (m : Int) → Value.int .u8 z = .int .u8 ((u8 m).toNat : Int) := fun m hm z hz => by rw [u8_nat hm, hz]
  simp only [fraCells, byteCells, fraHead, List.map_cons, List.map_nil]
  rw [if_pos (by omega), if_pos (by omega), if_pos (by omega), if_pos (by omega)]
  rw [← key (n / 256) (by omega) _ rfl, ← key (n % 256) (by omega) _ rfl, ← key (255 - n / 256) (by omega) _ rfl, ← key (255 - n % 256) (by omega) _ rfl, ← key (c / 16777216) (by omega) _ rfl, ← key (c / 65536 % 256) (by omega) _ rfl, ← key (c / 256 % 256) (by omega) _ rfl, ← key (c % 256) (by omega) _ rfl]
  simp
set_option maxRecDepth 100000 in
set_option maxHeartbeats 2000000 in
theorem fra_put_no (s : ByteArray) (w : World) (hs : s.size ≤ 140737488355328) (h : 65535 < s.size) : Calls Tryz.prog 37 #[.string s] w fun e w' => e = .returned (.tuple #[.string ⟨#[]⟩, .int .i64 5]) ∧ w = w' := by
  go_enter Tryz.func37, Tryz.ntmps37
  go_wp2_with fail
  go_ret2
  exact ⟨rfl, rfl⟩
set_option maxRecDepth 100000 in
set_option maxHeartbeats 2000000 in
theorem fra_put (s : ByteArray) (w : World) (h : s.size ≤ 65535) : Calls Tryz.prog 37 #[.string s] w fun e w' => (∃ t : ByteArray, t.data.toList = fraB s.data.toList ∧ e = .returned (.tuple #[.string t, .int .i64 0])) ∧ Chg (fun _ => False) w w' := by
  have hcl := crcSum_lt s.data.toList
  obtain ⟨c, hc⟩ : ∃ c, crcSum s.data.toList = c := ⟨_, rfl⟩
  have hsum := fra_sum s w (by omega)
  rw [hc] at hsum hcl
  have HS := Lib.hid hsum
  have HC := Lib.hid hc
  clear hsum hc
  go_enter Tryz.func37, Tryz.ntmps37
  go_wp2_with fail
  refine HS.out.mono ?_
  rintro e w' ⟨rfl, rfl⟩
  have hx1 : bits .xor .u8 (if IntKind.u8.signed = true then -1 else IntKind.u8.max) ((s.size : Int) / 256) = ((255 - s.size / 256 : Nat) : Int) := by
    rw [if_neg (by decide), show (s.size : Int) / 256 = ((s.size / 256 : Nat) : Int) by omega]
    exact not8 _ (by omega)
  have hx2 : bits .xor .u8 (if IntKind.u8.signed = true then -1 else IntKind.u8.max) ((s.size : Int) % 256) = ((255 - s.size % 256 : Nat) : Int) := by
    rw [if_neg (by decide), show (s.size : Int) % 256 = ((s.size % 256 : Nat) : Int) by omega]
    exact not8 _ (by omega)
  obtain ⟨w1, hw1⟩ : ∃ w1, w1 = w.alloc (.cells #[.int .u8 ((s.size : Int) / 256), .int .u8 ((s.size : Int) % 256), .int .u8 ((255 - s.size / 256 : Nat) : Int), .int .u8 ((255 - s.size % 256 : Nat) : Int), .int .u8 0, .int .u8 0, .int .u8 0, .int .u8 0] 182) := ⟨_, rfl⟩
  have hc1 : Chg (fun _ => False) w w1 := by rw [hw1]; ((repeat (first | exact Chg.refl _ _ | assumption | refine Chg.drewN ?_ _ | refine Chg.drew ?_ | refine Chg.alloc ?_ _ | refine Chg.setCell ?_ (by first | (simp; done) | (simp; omega) | (intro h; simp at h; omega)) _)))
  have hb1 : Blk w1 w.heap.size 182 (fraCells s.size c 0) := by rw [hw1]; exact Blk.new w _ _
  have HW1 := Lib.hid hw1
  have HC1 := Lib.hid hc1
  have HB1 := Lib.hid hb1
  clear hw1 hc1 hb1
  go_upto_region 5 with fail
  rw [← HW1.out]
  clear hx1 hx2
  go_wp2_with fail
  go_loopw [29] (fun i wr => ∃ k : Nat, k ≤ 4 ∧ i = .int .i64 k ∧ Blk wr w.heap.size 182 (fraCells s.size c k) ∧ Chg (fun j => j = w.heap.size) w1 wr) (fun i _ => 4 - (intOf i).toNat)
  case atStart => exact ⟨0, by omega, rfl, HB1.out, Chg.refl _ _⟩
  case round =>
    obtain ⟨k, hk, rfl, hB, hcr⟩ := hrel
    by_cases hlt : k < 4
    · have hcase : k = 0 ∨ k = 1 ∨ k = 2 ∨ k = 3 := by omega
      have hfr := fun i => hB.frozen i
      have hf4 := hfr 4
      have hf5 := hfr 5
      have hf6 := hfr 6
      have hf7 := hfr 7
      have hj4 := hB.cell 4
      have hj5 := hB.cell 5
      have hj6 := hB.cell 6
      have hj7 := hB.cell 7
      have hk0 : (0 : Int) ≤ (k : Int) := by omega
      have hB' := hB.set_ (4 + k) (.int .u8 (if k = 0 then (c : Int) / 16777216 else if k = 1 then (c : Int) / 65536 % 256 else if k = 2 then (c : Int) / 256 % 256 else (c : Int) % 256))
      have hbn : (fraCells s.size c k).setIfInBounds (4 + k) (.int .u8 (if k = 0 then (c : Int) / 16777216 else if k = 1 then (c : Int) / 65536 % 256 else if k = 2 then (c : Int) / 256 % 256 else (c : Int) % 256)) = fraCells s.size c (k + 1) := by
        rcases hcase with rfl | rfl | rfl | rfl <;> simp [fraCells]
      rw [hbn] at hB'
      have HB' := Lib.hid hB'
      have HCR := Lib.hid hcr
      clear hB' hbn hfr hB hcr
      simp only [fraCells] at hj4 hj5 hj6 hj7
      rcases hcase with rfl | rfl | rfl | rfl
      all_goals
        simp at hj4 hj5 hj6 hj7
        go_wp2_with fail
      · exact ⟨⟨1, by omega, rfl, by simpa using HB'.out, by have := HCR.out; ((repeat (first | exact Chg.refl _ _ | assumption | refine Chg.drewN ?_ _ | refine Chg.drew ?_ | refine Chg.alloc ?_ _ | refine Chg.setCell ?_ (by first | (simp; done) | (simp; omega) | (intro h; simp at h; omega)) _)))⟩, by simp [intOf]⟩
      · exact ⟨⟨2, by omega, rfl, by simpa using HB'.out, by have := HCR.out; ((repeat (first | exact Chg.refl _ _ | assumption | refine Chg.drewN ?_ _ | refine Chg.drew ?_ | refine Chg.alloc ?_ _ | refine Chg.setCell ?_ (by first | (simp; done) | (simp; omega) | (intro h; simp at h; omega)) _)))⟩, by simp [intOf]⟩
      · exact ⟨⟨3, by omega, rfl, by simpa using HB'.out, by have := HCR.out; ((repeat (first | exact Chg.refl _ _ | assumption | refine Chg.drewN ?_ _ | refine Chg.drew ?_ | refine Chg.alloc ?_ _ | refine Chg.setCell ?_ (by first | (simp; done) | (simp; omega) | (intro h; simp at h; omega)) _)))⟩, by simp [intOf]⟩
      · exact ⟨⟨4, by omega, rfl, by simpa using HB'.out, by have := HCR.out; ((repeat (first | exact Chg.refl _ _ | assumption | refine Chg.drewN ?_ _ | refine Chg.drew ?_ | refine Chg.alloc ?_ _ | refine Chg.setCell ?_ (by first | (simp; done) | (simp; omega) | (intro h; simp at h; omega)) _)))⟩, by simp [intOf]⟩
    · obtain rfl : k = 4 := by omega
      have hfr := fun i => hB.frozen i
      have hsz : (⟨(fraHead s.size c).toArray⟩ : ByteArray).size = 8 := rfl
      rw [fraCells_all s.size c h hcl] at hB
      have hcv := run_arr_string ⟨(fraHead s.size c).toArray⟩ hsz hB
      obtain ⟨hd, hhd⟩ : ∃ hd : ByteArray, (⟨(fraHead s.size c).toArray⟩ : ByteArray) = hd := ⟨_, rfl⟩
      rw [hhd] at hcv
      have hds : hd.size ≤ 8 := by rw [← hhd]; exact Nat.le_refl 8
      have HHD := Lib.hid hhd
      have HCR := Lib.hid (HC1.out.own hcr (Nat.le_refl _))
      clear hsz hhd hB hcr
      go_wp2_with fail
      go_ret2
      refine ⟨⟨hd ++ s, ?_, rfl⟩, HCR.out⟩
      rw [← HHD.out]
      unfold fraB
      rw [HC.out]
      simp
end Go.Proofs.YtahahginmgidjaaGreatDoor
