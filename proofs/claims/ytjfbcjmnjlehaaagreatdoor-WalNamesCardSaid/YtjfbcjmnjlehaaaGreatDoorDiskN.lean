/-
  The disk: Read, Crash, Cut, New.
-/
import Derived.Test.YtjfbcjmnjlehaaaGreatDoorDiskL
import Derived.Laws.BytesString
namespace Go.Proofs.YtjfbcjmnjlehaaaGreatDoor
open Go.RowKit
set_option linter.unusedVariables false
set_option linter.unusedSimpArgs false

theorem fold_push (l : List UInt8) : ∀ acc : ByteArray, (l.map fun b => (b.toNat : Int)).foldl (fun (r : ByteArray) (n : Int) => r.push (UInt8.ofNat n.toNat)) acc = acc ++ ⟨l.toArray⟩ := by
  induction l with
  | nil => intro acc; apply ByteArray.ext; simp
  | cons x xs ih =>
    intro acc
    rw [List.map_cons, List.foldl_cons, ih]
    apply ByteArray.ext
    simp
/-- string(b), of bytes of one's own. -/
theorem run_own_string {w : World} {v : Value} {s : ByteArray} (h : Own w 5 1 v s.size (byteCells s)) : (convert 60 9 v).run Tryz.prog w = .ok (.string s) w := by
  obtain ⟨a, cap, rfl, _, _, hr⟩ := h.reads
  rw [run_convert_bytes_string w 60 9 5 a s.size cap Tryz.underlying60 Tryz.underlying5 Tryz.underlying9]
  cases ha : a with
  | none =>
    have hz : s.size = 0 := by
      rcases Nat.eq_zero_or_pos s.size with h0 | h0
      · exact h0
      · obtain ⟨b, hb, _⟩ := hr h0
        rw [ha] at hb; cases hb
    have he : s = ⟨#[]⟩ := by
      cases s with | mk x => cases x with | mk l => cases l with | nil => rfl | cons y ys => simp [ByteArray.size] at hz
    subst he
    rfl
  | some ad =>
    have hn : (byteCells s).length = s.size * 1 := by rw [byteCells_length, Nat.mul_one]
    have hcells : ∀ j u, (byteCells s)[j]? = some u → w.cell? (ad.add j) = some u := fun j u hu => by
      have hj : j < s.size := by have := (List.getElem?_eq_some_iff.1 hu).1; rw [byteCells_length] at this; exact this
      obtain ⟨b, hb, _, _, hc⟩ := hr (by omega)
      rw [ha] at hb
      cases hb
      have e : (⟨b, 0, none⟩ : Addr).add j = ⟨b, j, none⟩ := by rw [Addr.add_lit]; simp
      rw [e]
      exact hc j u hu
    have hl : (loadCells ad (s.size * 1)).run Tryz.prog w = .ok (byteCells s).toArray w := run_firstCells_some w 1 s.size ad s.size cap (byteCells s) hn hcells
    rw [Nat.mul_one] at hl
    have hb : byteCells s = (s.data.toList.map fun b => (b.toNat : Int)).map (Value.int .u8) := by unfold byteCells; rw [List.map_map]; rfl
    rw [hb] at hl
    rw [run_bytesToString w ad s.size cap _ hl, fold_push]
    congr 1
theorem disk_read (d : Nat) (ids : List Nat) (D : DiskV) (M : Nat → Prop) (n : ByteArray) (hn : n.size ≤ maxLen) (w : World) (h : DiskAt w d ids D M) :
    Calls Tryz.prog 45 #[.pointer (some ⟨d, 0, none⟩), .string n] w fun e w' => e = .returned (.tuple #[.string (readD D n).1, .int .i64 (readD D n).2]) ∧ Chg (fun _ => False) w w' := by
  have hfind := disk_find d ids D M n hn w h
  unfold findV at hfind
  unfold readD
  cases ho : D.off with
  | true =>
    rw [ho] at hfind
    have HFI := Lib.hid hfind
    clear hfind ho h
    go_enter Tryz.func45, Tryz.ntmps45
    go_wp2_with fail
    refine HFI.out.mono ?_
    rintro e w' ⟨rfl, rfl⟩
    go_wp2_with fail
    go_ret2
    exact ⟨rfl, Chg.refl _ _⟩
  | false =>
    rw [ho] at hfind
    cases hk : look D.names n with
    | none =>
      rw [hk] at hfind
      have HFI := Lib.hid hfind
      clear hfind ho h hk
      go_enter Tryz.func45, Tryz.ntmps45
      go_wp2_with fail
      refine HFI.out.mono ?_
      rintro e w' ⟨rfl, rfl⟩
      go_wp2_with fail
      go_ret2
      exact ⟨rfl, Chg.refl _ _⟩
    | some i =>
      rw [hk] at hfind
      have hi := h.1.names.lt _ (look_some hk)
      have hdo : dataOf D i = D.files[i].data := by unfold dataOf; rw [List.getElem?_eq_getElem hi]
      simp only [Bool.false_eq_true, if_false, hdo] at hfind ⊢
      have hc : ∃ id v, ids.getD i 0 = id ∧ w.cell? ⟨id, 0, none⟩ = some v ∧ (∃ a n c, v = .slice a n c) ∧ (convert 60 9 v).run Tryz.prog w = .ok (.string D.files[i].data) w := by
        obtain ⟨_, y, hy⟩ := h
        obtain ⟨id, v, e1, e2, hb, ho⟩ := hy.files.at_ hi
        obtain ⟨va, vc, hvv, _, _, _⟩ := ho.reads
        exact ⟨id, v, by rw [List.getD_eq_getElem?_getD, e1]; rfl, hb.cell 0, ⟨_, _, _, hvv⟩, run_own_string ho⟩
      obtain ⟨id, v, hid, hcell, ⟨a, m, c, rfl⟩, hconv⟩ := hc
      rw [show fptr ids i = .pointer (some ⟨id, 0, none⟩) from by unfold fptr; rw [hid]] at hfind
      have HFI := Lib.hid hfind
      generalize D.files[i].data = s at *
      clear hfind ho h hk hdo hid hi
      go_enter Tryz.func45, Tryz.ntmps45
      go_wp2_with fail
      refine HFI.out.mono ?_
      rintro e w' ⟨rfl, rfl⟩
      go_wp2_with fail
      go_ret2
      exact ⟨rfl, Chg.refl _ _⟩

def startD (room : Int) : DiskV := ⟨max 0 room, [], [], [], [], 0, 0, [], 0, false⟩
theorem disk_new (room : Int) (hr : room ≤ 9223372036854775807) (w : World) :
    Calls Tryz.prog 11 #[.int .i64 room] w fun e w' => e = .returned (.pointer (some ⟨w.heap.size + 2, 0, none⟩)) ∧ DiskAt w' (w.heap.size + 2) [] (startD room) (fun k => w.heap.size ≤ k ∧ k < w'.heap.size) ∧ Chg (fun _ => False) w w' ∧ w'.heap.size = w.heap.size + 3 := by
  have hm1 : ∀ w : World, (Instr.makeMap 61 none).run Tryz.prog w = .ok (.map (some w.heap.size)) (w.alloc (.map #[] 0)) := fun w => run_makeMap 61 w
  have hkey : ∀ m : Int, m = max 0 room → DiskAt (((w.alloc (.map #[] 0)).alloc (.map #[] 0)).alloc (.cells #[.int .i64 m, .slice none 0 0, .map (some w.heap.size), .map (some (w.heap.size + 1)), .slice none 0 0, .int .i64 0, .int .i64 0, .slice none 0 0, .int .i64 0, .int .i64 0, .slice none 0 0, .bool false] 67)) (w.heap.size + 2) [] (startD room) (fun k => w.heap.size ≤ k ∧ k < (((w.alloc (.map #[] 0)).alloc (.map #[] 0)).alloc (.cells #[.int .i64 m, .slice none 0 0, .map (some w.heap.size), .map (some (w.heap.size + 1)), .slice none 0 0, .int .i64 0, .int .i64 0, .slice none 0 0, .int .i64 0, .int .i64 0, .slice none 0 0, .bool false] 67)).heap.size) := by
    rintro m rfl
    obtain ⟨W, hW⟩ : ∃ W, W = ((w.alloc (.map #[] 0)).alloc (.map #[] 0)).alloc (.cells #[.int .i64 (max 0 room), .slice none 0 0, .map (some w.heap.size), .map (some (w.heap.size + 1)), .slice none 0 0, .int .i64 0, .int .i64 0, .slice none 0 0, .int .i64 0, .int .i64 0, .slice none 0 0, .bool false] 67) := ⟨_, rfl⟩
    rw [← hW]
    have hb : Blk W (w.heap.size + 2) 67 #[.int .i64 (max 0 room), .slice none 0 0, .map (some w.heap.size), .map (some (w.heap.size + 1)), .slice none 0 0, .int .i64 0, .int .i64 0, .slice none 0 0, .int .i64 0, .int .i64 0, .slice none 0 0, .bool false] := by
      rw [hW]
      have := Blk.new ((w.alloc (.map #[] 0)).alloc (.map #[] 0)) 67 #[.int .i64 (max 0 room), .slice none 0 0, .map (some w.heap.size), .map (some (w.heap.size + 1)), .slice none 0 0, .int .i64 0, .int .i64 0, .slice none 0 0, .int .i64 0, .int .i64 0, .slice none 0 0, .bool false]
      simpa using this
    have hs : W.heap.size = w.heap.size + 3 := by rw [hW]; simp
    have hmap1 : MapAt Tryz.prog 9 W w.heap.size 0 (fun _ => none) := by
      rw [hW]
      exact (MapAt.new Tryz.prog 9 w).chg (S := fun _ => False) (by ((repeat (first | exact Chg.refl _ _ | assumption | refine Chg.drewN ?_ _ | refine Chg.drew ?_ | refine Chg.alloc ?_ _ | refine Chg.setCell ?_ (by first | (simp; done) | (simp; omega) | (intro h; simp at h; omega)) _)))) (by simp)
    have hmap2 : MapAt Tryz.prog 9 W (w.heap.size + 1) 0 (fun _ => none) := by
      have := (MapAt.new Tryz.prog 9 (w.alloc (.map #[] 0))).chg (S := fun _ => False) (w' := W) (by rw [hW]; ((repeat (first | exact Chg.refl _ _ | assumption | refine Chg.drewN ?_ _ | refine Chg.drew ?_ | refine Chg.alloc ?_ _ | refine Chg.setCell ?_ (by first | (simp; done) | (simp; omega) | (intro h; simp at h; omega)) _)))) (by simp)
      simpa using this
    refine ⟨⟨NamesOk.nil _, NamesOk.nil _, by simp [startD], by simp [startD], by simp only [startD]; omega, by simp [startD], by simp [startD], by simp [startD], by simp [startD]⟩, ⟨.slice none 0 0, .slice none 0 0, .slice none 0 0, w.heap.size, w.heap.size + 1, [], []⟩, hb, ⟨rfl, own_nil, by simp [startD], rfl, List.Pairwise.nil, by simp [blockAt]⟩, ⟨0, _, hmap1, fun k v => by simp [startD], rfl⟩, ⟨0, _, hmap2, fun k v => by simp [startD], rfl⟩, by simp, ⟨own_nil, by simp [startD]⟩, own_nil, ?_, fun k hk => hk.2⟩
    rintro k (e | e | e | e | e | e)
    · exact ⟨by omega, by omega⟩
    · rcases e with e | e | ⟨i, e⟩
      · simp at e
      · simp [Value.ownBlock] at e
      · simp [blockAt] at e
    · have e' : k = w.heap.size := e
      exact ⟨by omega, by omega⟩
    · have e' : k = w.heap.size + 1 := e
      exact ⟨by omega, by omega⟩
    · rcases e with e | ⟨i, e⟩
      · simp [Value.ownBlock] at e
      · simp [blockAt] at e
    · simp [Value.ownBlock] at e
  go_enter Tryz.func11, Tryz.ntmps11
  go_wp2_with fail
  all_goals
    go_ret
    exact ⟨rfl, hkey _ (by omega), by ((repeat (first | exact Chg.refl _ _ | assumption | refine Chg.drewN ?_ _ | refine Chg.drew ?_ | refine Chg.alloc ?_ _ | refine Chg.setCell ?_ (by first | (simp; done) | (simp; omega) | (intro h; simp at h; omega)) _))), by simp⟩

def crashD (D : DiskV) (names : Int) (bytes : List Int) : DiskV := { failD D names bytes with off := false }
theorem disk_crash (d : Nat) (ids : List Nat) (D : DiskV) (M : Nat → Prop) (names : Int) (bytes : List Int) (bv : Value) (hq : D.queue.length ≤ 1000000000) (hn1 : -9223372036854775808 ≤ names) (hn2 : names ≤ 9223372036854775807) (w : World) (h : DiskAt w d ids D M)
    (hbs : ∀ W, Chg M w W → RInts W bv bytes) :
    Calls Tryz.prog 57 #[.pointer (some ⟨d, 0, none⟩), .int .i64 names, bv] w fun e w' => e = .returned (.tuple #[]) ∧ DPost w d ids M (crashD D names bytes) w' := by
  obtain ⟨hok, y, h⟩ := h
  have hfail := disk_fail d ids D y M names bytes bv hok hq hn1 hn2 w h (fun W hW => hbs W (hW.mono fun k _ e => by
    rcases e with e | e | e
    · rw [e]; exact h.mine _ (.inl rfl)
    · rw [e]; exact h.mine _ (.inr (.inr (.inr (.inl rfl))))
    · exact h.mine _ (.inr (.inl e))))
  have HFA := Lib.hid hfail
  have HLT := Lib.hid h.lt
  have HMD := Lib.hid (h.mine d (.inl rfl))
  have HOK := Lib.hid hok
  obtain ⟨ba, bc, rfl, _, _, _⟩ := hbs w (Chg.refl _ _)
  clear h hfail hbs hok
  go_enter Tryz.func57, Tryz.ntmps57
  go_wp2_with fail
  refine HFA.out.mono ?_
  rintro e w5 ⟨rfl, ⟨y5, h5⟩, hc5⟩
  have j11 := h5.blk.frozen 11
  have k11 := h5.blk.cell 11
  simp at k11
  have H5 := Lib.hid h5
  have HC5 := Lib.hid hc5
  clear h5 hc5
  go_wp2_with fail
  first | go_end0 | refine bodyPost_ret (results_none rfl _ _ _) rfl ?_
  have hset : Chg (fun k => k = d) w5 (w5.setCell ⟨d, 11, none⟩ (.bool false)) := Chg.setOwn (Chg.refl _ _) _ _
  have hb6 := H5.out.blk.set_ 11 (.bool false)
  have h6 := H5.out.setD hset (failD D names bytes).cutL (failD D names bytes).cutN (failD D names bytes).cutB (failD D names bytes).fullL false y5.cv (by simpa using hb6) (H5.out.cutb.chg hset fun k hk => (H5.out.cut_ne hk).1) (fun k hk => H5.out.mine k (.inr (.inr (.inr (.inr (.inr hk))))))
  have s5 := HC5.out.size
  have s6 := hset.size
  refine ⟨rfl, ids, ⟨off_ok (fail_ok HOK.out _ _) false, _, h6.more (N := Mx M w (w5.setCell ⟨d, 11, none⟩ (.bool false))) (fun k hk => ?_) (mx_lt HLT.out (by omega))⟩, List.prefix_refl _, HC5.out.setCell (fun _ => HMD.out) _⟩
  rcases hk with e | e
  · exact .inl e
  · exact .inr ⟨e.1, by omega⟩
end Go.Proofs.YtjfbcjmnjlehaaaGreatDoor
