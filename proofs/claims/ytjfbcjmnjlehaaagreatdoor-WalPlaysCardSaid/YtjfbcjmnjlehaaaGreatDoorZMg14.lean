/-
  Names of logs, for the small numbers that the laws use.
  The disk: Cut (and slices.Clone of ints).
-/
import Derived.Test.YtjfbcjmnjlehaaaGreatDoorLay
import Derived.Test.YtjfbcjmnjlehaaaGreatDoorZMg13
import Derived.Test.YtjfbcjmnjlehaaaGreatDoorZMg11
import Derived.Lib.SliceRun
namespace Go.Proofs.YtjfbcjmnjlehaaaGreatDoor
open Go.RowKit Go.Shelf
set_option linter.unusedVariables false
set_option linter.unusedSimpArgs false

theorem rep_extra : Builder.Extra Tryz.prog Tryz.strRep_ren where
  sizeBuilder := by kernel_rfl
  liesBuilder := by kernel_rfl
  t5 := Tryz.strRep.t5
  a5 := Tryz.strRep.a5
  z5 := Tryz.strRep.z5
  v5 := Tryz.strRep.v5
  infoByte := by kernel_rfl
  cellsByte := by kernel_rfl
  sizeByte := by kernel_rfl
  neB5 := by decide
theorem ren_trim : Tryz.strTrim_ren.f 160 = 25 := by kernel_rfl
theorem ren_fmt : Tryz.fmtInt_ren.f 173 = 26 := by kernel_rfl
theorem ren_rep : Tryz.strRep_ren.f 105 = 27 := by kernel_rfl
def letters : ByteArray := ⟨#[97, 98, 99, 100, 101, 102, 103, 104, 105, 106, 107, 108, 109, 110, 111, 112, 113, 114, 115, 116, 117, 118, 119, 120, 121, 122]⟩
theorem str_trim (s : ByteArray) (w : World) (hs : s.size ≤ 1000000000) : Calls Tryz.prog 25 #[.string s, .string letters] w fun e w' => e = .returned (.string ⟨(Lib.trimS s.data.toList letters.data.toList).toArray⟩) ∧ Chg (fun _ => False) w w' := by
  have h := Any.strings_Trim_laid Tryz.strTrim (by kernel_rfl) s letters w (by omega) (by decide) (ascii_of_all (by decide))
  rw [ren_trim] at h
  exact h.mono fun e w' ⟨he, hb⟩ => ⟨he, Chg.of_below hb⟩
theorem fmt_small (i : Nat) (hi : i < 100) (w : World) : Calls Tryz.prog 26 #[.int .i64 (i : Int), .int .i64 10] w fun e w' => e = .returned (.string ⟨(Lib.decDigits i).toArray⟩) ∧ w = w' := by
  have h := Any.strconv_FormatInt_10_small Tryz.fmtInt i hi w
  rw [ren_fmt] at h
  exact h.mono fun e w' ⟨he, hw⟩ => ⟨he, hw.symm⟩
theorem str_rep (s : ByteArray) (c : Nat) (w : World) (hlen : s.size * c ≤ 140737488355328) (hc : c ≤ 9223372036854775807) : Calls Tryz.prog 27 #[.string s, .int .i64 (c : Int)] w fun e w' => e = .returned (.string ⟨(Lib.repeatL s.data.toList c).toArray⟩) ∧ Chg (fun _ => False) w w' := by
  have h := Any.strings_Repeat Tryz.strRep rep_extra s c w hc hlen
  rw [ren_rep] at h
  exact h.mono fun e w' ⟨he, hb⟩ => ⟨he, Chg.of_below hb⟩
/-- log-0000000n. -/
def logN (n : Nat) : ByteArray := ⟨#[108, 111, 103, 45, 48, 48, 48, 48, 48, 48, 48, u8 (48 + n)]⟩
theorem digits_one (n : Nat) (h : n < 10) : Lib.decDigits n = [u8 (48 + n)] := Lib.decDigits_one h
theorem wal_name (n : Nat) (hn : n < 10) (w : World) : Calls Tryz.prog 10 #[.int .i64 (n : Int)] w fun e w' => e = .returned (.string (logN n)) ∧ Chg (fun _ => False) w w' := by
  have h1 := fun w => str_trim ⟨#[108, 111, 103]⟩ w (by decide)
  have e1 : Lib.trimS (⟨#[108, 111, 103]⟩ : ByteArray).data.toList letters.data.toList = [] := by decide
  rw [e1] at h1
  have h2 := fun w => fmt_small n (by omega) w
  rw [digits_one n hn] at h2
  have h3 := fun w => str_rep ⟨#[48]⟩ 7 w (by decide) (by decide)
  have e3 : Lib.repeatL (⟨#[48]⟩ : ByteArray).data.toList 7 = [48, 48, 48, 48, 48, 48, 48] := by decide
  rw [e3] at h3
  have H1 := Lib.hid h1
  have H2 := Lib.hid h2
  have H3 := Lib.hid h3
  clear h1 h2 h3 e1 e3
  have file : ∀ w, Calls Tryz.prog 8 #[.string ⟨#[108, 111, 103]⟩, .int .i64 (n : Int)] w fun e w' => e = .returned (.string (logN n)) ∧ Chg (fun _ => False) w w' := fun w => by
    go_enter Tryz.func8, Tryz.ntmps8
    go_wp2_with fail
    refine (H1.out _).mono ?_
    rintro e w1 ⟨rfl, hc1⟩
    have HC1 := Lib.hid hc1
    clear hc1
    go_wp2_with fail
    refine (H2.out _).mono ?_
    rintro e w2 ⟨rfl, rfl⟩
    go_wp2_with fail
    refine (H3.out _).mono ?_
    rintro e w2 ⟨rfl, hc2⟩
    have HC2 := Lib.hid (HC1.out.then hc2)
    clear hc2
    go_wp2_with fail
    go_ret
    exact ⟨rfl, HC2.out⟩
  have HF := Lib.hid file
  clear file
  go_enter Tryz.func10, Tryz.ntmps10
  go_wp2_with fail
  refine (HF.out _).mono ?_
  rintro e w1 ⟨rfl, hc1⟩
  go_wp2_with fail
  go_ret
  exact ⟨rfl, hc1⟩
end Go.Proofs.YtjfbcjmnjlehaaaGreatDoor
namespace Go.Proofs.YtjfbcjmnjlehaaaGreatDoor
open Go.RowKit
set_option linter.unusedVariables false
set_option linter.unusedSimpArgs false

theorem info_int : (Tryz.prog.info? 3).map (fun i => (i.zero, i.size, i.bytes)) = some (some (.int .i64 0), 1, 8) := by kernel_rfl
theorem cell_lt {w : World} {a : Addr} {v : Value} (h : w.cell? a = some v) : a.block < w.heap.size := by
  rcases Nat.lt_or_ge a.block w.heap.size with h1 | h1
  · exact h1
  · unfold World.cell? at h
    rw [Array.getElem?_eq_none h1] at h
    simp at h
theorem intCells_one (l : List Int) : ∀ u ∈ intCells l, u.oneCell' = true := fun u hu => by
  obtain ⟨x, _, rfl⟩ := List.mem_map.1 hu
  rfl
set_option maxRecDepth 100000 in
set_option maxHeartbeats 2000000 in
theorem clone_ints (v : Value) (l : List Int) (hl : l.length ≤ 17592186044416) (w : World) (h : RInts w v l) :
    Calls Tryz.prog 111 #[v] w fun e w' => ∃ v', e = .returned v' ∧ Own w' 3 1 v' l.length (intCells l) ∧ Chg (fun _ => False) w w' ∧ ∀ k, v'.ownBlock = some k → w.heap.size ≤ k := by
  obtain ⟨i0, hi0, hz0, hz1, hz2⟩ := info_parts info_int
  obtain ⟨a, cap, rfl, hn, hb, hr⟩ := h
  cases a with
  | none =>
    have hz : l.length = 0 := by
      rcases Nat.eq_zero_or_pos l.length with h0 | h0
      · exact h0
      · obtain ⟨b, off, hb, _⟩ := hr h0; cases hb
    have hnil : l = [] := List.eq_nil_of_length_eq_zero hz
    subst hnil
    have hq : (binOp .eql 33 (.slice none 0 cap) (.slice none 0 0)).run Tryz.prog w = .ok (.bool true) w := Lib.run_eql_slice_nil w 33 3 none 0 cap 0 0 Tryz.underlying33
    go_enter Tryz.func111, Tryz.ntmps111
    go_wp2_with fail
    go_ret
    exact ⟨_, rfl, own_nil, Chg.refl _ _, by simp [Value.ownBlock]⟩
  | some ad =>
    have hcells : ∀ j u, (intCells l)[j]? = some u → w.cell? (ad.add j) = some u := fun j u hu => by
      unfold intCells at hu
      rw [List.getElem?_map] at hu
      obtain ⟨x, hx, rfl⟩ := Option.map_eq_some_iff.1 hu
      have hj := (List.getElem?_eq_some_iff.1 hx).1
      obtain ⟨b, off, he, hc⟩ := hr (by omega)
      cases he
      have e : (⟨b, off, none⟩ : Addr).add j = ⟨b, off + j, none⟩ := by rw [Addr.add_lit]
      rw [e]
      exact hc j x hx
    have hil : (intCells l).length = l.length * 1 := by simp [intCells]
    have HCE := Lib.hid hcells
    have HIL := Lib.hid hil
    clear hcells hr hil
    have hq : (binOp .eql 33 (.slice (some ad) l.length cap) (.slice none 0 0)).run Tryz.prog w = .ok (.bool false) w := Lib.run_eql_slice_nil w 33 3 (some ad) l.length cap 0 0 Tryz.underlying33
    generalize hll : l.length = n at *
    have HLL := Lib.hid hll
    clear hll
    go_enter Tryz.func111, Tryz.ntmps111
    go_wp2_with (at_builtin; refine wpList_own_append _ rfl _ _ _ _ rfl 3 i0 (.int .i64 0) 1 8 Tryz.underlying33 hi0 hz0 hz1 hz2 rfl (.slice (some ⟨w.heap.size, 0, none⟩) 0 0) 0 [] rfl ⟨rfl, .inr ⟨w.heap.size, 0, #[], rfl, heap_alloc_new _ _, Nat.le_refl _, Nat.zero_le _, Nat.le_refl _, rfl⟩⟩ _ n (intCells l) rfl (Src.ofSlice _ Tryz.underlying33 ad n cap _ HIL.out (fun j u hu => ?c1) (intCells_one l)) (by unfold maxLen; omega) (by omega) ?_)
    case c1 =>
      have hc := HCE.out j u hu
      rw [World.cell?_alloc_lt _ _ _ (cell_lt hc)]
      exact hc
    intro v' w2 hown hg hvb
    have hc2 : Chg (fun k => k = w.heap.size) (w.alloc (.cells #[] 3)) w2 := (Chg.refl _ _).grown hg (fun k e _ => by simp [Value.ownBlock] at e; exact e.symm)
    have hcw : Chg (fun _ => False) w w2 := ((Chg.refl (fun _ => False) w).alloc _).own hc2 (Nat.le_refl _)
    have hge : ∀ k, v'.ownBlock = some k → w.heap.size ≤ k := fun k hk => by
      rcases hvb with e | e
      · rw [e] at hk; simp [Value.ownBlock] at hk; omega
      · rw [e] at hk; injection hk with hk; omega
    have hown' : Own w2 3 1 v' n (intCells l) := by simpa using hown
    have HO := Lib.hid hown'
    have HCW := Lib.hid hcw
    have HGE := Lib.hid hge
    clear hown hg hvb hc2 hcw hge hown'
    go_wp2_with fail
    go_ret
    exact ⟨v', rfl, HO.out, HCW.out, HGE.out⟩

def cutD (D : DiskV) (n names : Int) (bytes : List Int) : DiskV := { D with cutL := max 1 n, cutN := names, cutB := bytes }
theorem cut_ok {D : DiskV} (h : DiskOk D) {n names : Int} {bytes : List Int} (hn : n ≤ 9223372036854775807) (hn1 : -9223372036854775808 ≤ names) (hn2 : names ≤ 9223372036854775807) (hb : ∀ x ∈ bytes, -9223372036854775808 ≤ x ∧ x ≤ 9223372036854775807) : DiskOk (cutD D n names bytes) :=
  ⟨h.names, h.lasts, h.queue, h.file, h.room, by simp only [cutD]; omega, h.fullL, ⟨hn1, hn2⟩, hb⟩
set_option maxRecDepth 100000 in
set_option maxHeartbeats 2000000 in
theorem disk_cut (d : Nat) (ids : List Nat) (D : DiskV) (M : Nat → Prop) (n names : Int) (bytes : List Int) (bv : Value) (hl : bytes.length ≤ 17592186044416) (hn : n ≤ 9223372036854775807) (hn1 : -9223372036854775808 ≤ names) (hn2 : names ≤ 9223372036854775807) (w : World) (h : DiskAt w d ids D M)
    (hbs : RInts w bv bytes) :
    Calls Tryz.prog 59 #[.pointer (some ⟨d, 0, none⟩), .int .i64 n, .int .i64 names, bv] w fun e w' => e = .returned (.tuple #[]) ∧ DPost w d ids M (cutD D n names bytes) w' := by
  obtain ⟨hok, y, h⟩ := h
  have hcl := clone_ints bv bytes hl w hbs
  have hok' := cut_ok hok hn hn1 hn2 hbs.choose_spec.choose_spec.2.2.1
  obtain ⟨ba, bc, rfl, _, _, _⟩ := hbs
  have hmd := h.mine d (.inl rfl)
  have hkey : ∀ m v' w1 w2, m = max 1 n → Chg (fun _ => False) w w1 → Own w1 3 1 v' bytes.length (intCells bytes) → (∀ k, v'.ownBlock = some k → w.heap.size ≤ k) → Chg (fun _ => False) (((w1.setCell ⟨d, 5, none⟩ (.int .i64 m)).setCell ⟨d, 6, none⟩ (.int .i64 names)).setCell ⟨d, 7, none⟩ v') w2 → DPost w d ids M (cutD D n names bytes) w2 := by
    rintro m v' w1 w2 rfl hc1 hown hge hc2
    have hdl := h.blk.lt
    have hset : Chg (fun k => k = d) w1 (((w1.setCell ⟨d, 5, none⟩ (.int .i64 (max 1 n))).setCell ⟨d, 6, none⟩ (.int .i64 names)).setCell ⟨d, 7, none⟩ v') := Chg.setOwn (Chg.setOwn (Chg.setOwn (Chg.refl _ _) _ _) _ _) _ _
    have hb1 := (((h.blk.chg hc1 (by simp)).set_ 5 (.int .i64 (max 1 n))).set_ 6 (.int .i64 names)).set_ 7 v'
    have s1 := hc1.size
    have s2 := hset.size
    have s3 := hc2.size
    have h1 := (h.same hc1).more (N := Mx M w w1) (fun k hk => .inl hk) (mx_lt h.lt s1)
    have h2 := h1.setD hset (max 1 n) names bytes D.fullL D.off v' (by simpa using hb1) (hown.chg hset fun k hk e => by have := hge k hk; omega) (fun k hk => .inr ⟨hge k hk, hown.lt hk⟩)
    have h3 := (h2.same hc2).more (N := Mx M w w2) (fun k hk => by
      rcases hk with e | e
      · exact .inl e
      · exact .inr ⟨e.1, by omega⟩) (mx_lt h.lt (by omega))
    exact ⟨ids, ⟨hok', _, h3⟩, List.prefix_refl _, ((hc1.mono (by simp)).trans hset (fun k _ e => by rw [e]; exact hmd)).then (hc2.mono (by simp))⟩
  have j5 := h.blk.frozen 5
  have j6 := h.blk.frozen 6
  have j7 := h.blk.frozen 7
  have k5 := h.blk.cell 5
  have k6 := h.blk.cell 6
  have k7 := h.blk.cell 7
  simp at k5 k6 k7
  have hdl := h.blk.lt
  have HKEY := Lib.hid hkey
  have HCL := Lib.hid hcl
  clear hkey hcl h hok hok' hmd
  go_enter Tryz.func59, Tryz.ntmps59
  go_wp2_with fail
  all_goals
    refine HCL.out.mono ?_
    rintro e w1 ⟨v', rfl, hown, hc1, hge⟩
    obtain ⟨va, vc, rfl, _, _, _⟩ := hown.reads
    have q5 := (hc1.cell (p := ⟨d, 5, none⟩) hdl (by simp)).trans k5
    have q6 := (hc1.cell (p := ⟨d, 6, none⟩) hdl (by simp)).trans k6
    have q7 := (hc1.cell (p := ⟨d, 7, none⟩) hdl (by simp)).trans k7
    have p5 := (hc1.frozen (p := ⟨d, 5, none⟩) hdl (by simp)).trans j5
    have p6 := (hc1.frozen (p := ⟨d, 6, none⟩) hdl (by simp)).trans j6
    have p7 := (hc1.frozen (p := ⟨d, 7, none⟩) hdl (by simp)).trans j7
    have HO := Lib.hid hown
    have HC1 := Lib.hid hc1
    have HGE := Lib.hid hge
    clear hown hc1 hge k5 k6 k7 j5 j6 j7
    go_wp2_with fail
    first | go_end0 | refine bodyPost_ret (results_none rfl _ _ _) rfl ?_
    exact ⟨rfl, HKEY.out _ _ w1 _ (by omega) HC1.out HO.out HGE.out (Chg.refl _ _)⟩
end Go.Proofs.YtjfbcjmnjlehaaaGreatDoor
