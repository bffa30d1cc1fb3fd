/-
  The program's logs: calls one behind the other.
  The disk: Spoil, Part.
-/
import Derived.Test.YtjfbcjmnjlehaaaGreatDoorZMg14
import Derived.Test.YtjfbcjmnjlehaaaGreatDoorZMg15
import Derived.Outline
namespace Go.Proofs.YtjfbcjmnjlehaaaGreatDoor
open Go.RowKit
set_option linter.unusedVariables false
set_option linter.unusedSimpArgs false

/-- 2 calls, one behind the other: the first error ends them. -/
def FirstPost2 (Q1 Q2 : Int → World → Prop) (e : Ending) (w' : World) : Prop := ∃ n : Int, e = .returned (.int .i64 n) ∧ ((n ≠ 0 ∧ Q1 n w') ∨ Q2 n w')
set_option maxRecDepth 100000 in
set_option maxHeartbeats 2000000 in
theorem wal_first2 (g K1 K2 : Nat) (a1 c1 a2 c2 : Array Value) (Q1 Q2 : Int → World → Prop) (w : World) (hb : Blk w g 76 #[.func (.func K1) a1 c1, .func (.func K2) a2 c2])
    (hf1 : ∀ (W : World), (callFunc K1 (a1 ++ c1)).run Tryz.prog W = .ok (.enter K1 (a1 ++ c1)) W)
    (hf2 : ∀ (W : World), (callFunc K2 (a2 ++ c2)).run Tryz.prog W = .ok (.enter K2 (a2 ++ c2)) W)
    (h1 : Calls Tryz.prog K1 (a1 ++ c1) w fun e w' => ∃ n : Int, e = .returned (.int .i64 n) ∧ Q1 n w')
    (hg1 : ∀ n w', Q1 n w' → Blk w' g 76 #[.func (.func K1) a1 c1, .func (.func K2) a2 c2])
    (h2 : ∀ w', Q1 0 w' → Calls Tryz.prog K2 (a2 ++ c2) w' fun e w' => ∃ n : Int, e = .returned (.int .i64 n) ∧ Q2 n w') :
    Calls Tryz.prog 87 #[.slice (some ⟨g, 0, none⟩) 2 2] w (FirstPost2 Q1 Q2) := by
  have x0 := hb.cell 0
  simp at x0
  have H1 := Lib.hid h1
  have HF1 := Lib.hid hf1
  have H2 := Lib.hid h2
  have HF2 := Lib.hid hf2
  have HG1 := Lib.hid hg1
  clear hb h1 hf1 h2 hf2 hg1
  go_enter Tryz.func87, Tryz.ntmps87
  go_wp2_with fail
  go_loopw [8] (fun i wr => (i = .int .i64 0 ∧ wr = w) ∨ (i = .int .i64 1 ∧ Q1 0 wr) ∨ (i = .int .i64 2 ∧ Q2 0 wr)) (fun i _ => 2 - (intOf i).toNat)
  case atStart => exact .inl ⟨rfl, rfl⟩
  case round =>
    rcases hrel with ⟨rfl, rfl⟩ | ⟨rfl, hq⟩ | ⟨rfl, hq⟩
    · have hcf := HF1.out
      go_wp2_with fail
      refine H1.out.mono ?_
      rintro e w1 ⟨n, rfl, hq⟩
      by_cases hn : n = 0
      · subst hn
        have HQ := Lib.hid hq
        clear hq
        go_wp2_with fail
        refine ⟨(.inr (.inl ⟨rfl, HQ.out⟩)), by simp [intOf]⟩
      · have hn1 : (n != 0) = true := by simp [hn]
        have hn2 : (n == 0) = false := by simp [hn]
        have HQ := Lib.hid hq
        clear hq
        go_wp2_with fail
        go_ret
        exact ⟨n, rfl, (.inl ⟨hn, HQ.out⟩)⟩
    · have x1 := (HG1.out _ _ hq).cell 1
      simp at x1
      have hcf := HF2.out
      have hcall := H2.out _ hq
      have HCALL := Lib.hid hcall
      clear hq hcall
      go_wp2_with fail
      refine HCALL.out.mono ?_
      rintro e w1 ⟨n, rfl, hq⟩
      by_cases hn : n = 0
      · subst hn
        have HQ := Lib.hid hq
        clear hq
        go_wp2_with fail
        refine ⟨(.inr (.inr ⟨rfl, HQ.out⟩)), by simp [intOf]⟩
      · have hn1 : (n != 0) = true := by simp [hn]
        have hn2 : (n == 0) = false := by simp [hn]
        have HQ := Lib.hid hq
        clear hq
        go_wp2_with fail
        go_ret
        exact ⟨n, rfl, (.inr HQ.out)⟩
    · have HQ := Lib.hid hq
      clear hq
      go_wp2_with fail
      go_ret
      exact ⟨0, rfl, (.inr HQ.out)⟩
/-- 3 calls, one behind the other: the first error ends them. -/
def FirstPost3 (Q1 Q2 Q3 : Int → World → Prop) (e : Ending) (w' : World) : Prop := ∃ n : Int, e = .returned (.int .i64 n) ∧ ((n ≠ 0 ∧ Q1 n w') ∨ (n ≠ 0 ∧ Q2 n w') ∨ Q3 n w')
set_option maxRecDepth 100000 in
set_option maxHeartbeats 2000000 in
theorem wal_first3 (g K1 K2 K3 : Nat) (a1 c1 a2 c2 a3 c3 : Array Value) (Q1 Q2 Q3 : Int → World → Prop) (w : World) (hb : Blk w g 76 #[.func (.func K1) a1 c1, .func (.func K2) a2 c2, .func (.func K3) a3 c3])
    (hf1 : ∀ (W : World), (callFunc K1 (a1 ++ c1)).run Tryz.prog W = .ok (.enter K1 (a1 ++ c1)) W)
    (hf2 : ∀ (W : World), (callFunc K2 (a2 ++ c2)).run Tryz.prog W = .ok (.enter K2 (a2 ++ c2)) W)
    (hf3 : ∀ (W : World), (callFunc K3 (a3 ++ c3)).run Tryz.prog W = .ok (.enter K3 (a3 ++ c3)) W)
    (h1 : Calls Tryz.prog K1 (a1 ++ c1) w fun e w' => ∃ n : Int, e = .returned (.int .i64 n) ∧ Q1 n w')
    (hg1 : ∀ n w', Q1 n w' → Blk w' g 76 #[.func (.func K1) a1 c1, .func (.func K2) a2 c2, .func (.func K3) a3 c3])
    (h2 : ∀ w', Q1 0 w' → Calls Tryz.prog K2 (a2 ++ c2) w' fun e w' => ∃ n : Int, e = .returned (.int .i64 n) ∧ Q2 n w')
    (hg2 : ∀ n w', Q2 n w' → Blk w' g 76 #[.func (.func K1) a1 c1, .func (.func K2) a2 c2, .func (.func K3) a3 c3])
    (h3 : ∀ w', Q2 0 w' → Calls Tryz.prog K3 (a3 ++ c3) w' fun e w' => ∃ n : Int, e = .returned (.int .i64 n) ∧ Q3 n w') :
    Calls Tryz.prog 87 #[.slice (some ⟨g, 0, none⟩) 3 3] w (FirstPost3 Q1 Q2 Q3) := by
  have x0 := hb.cell 0
  simp at x0
  have H1 := Lib.hid h1
  have HF1 := Lib.hid hf1
  have H2 := Lib.hid h2
  have HF2 := Lib.hid hf2
  have H3 := Lib.hid h3
  have HF3 := Lib.hid hf3
  have HG1 := Lib.hid hg1
  have HG2 := Lib.hid hg2
  clear hb h1 hf1 h2 hf2 h3 hf3 hg1 hg2
  go_enter Tryz.func87, Tryz.ntmps87
  go_wp2_with fail
  go_loopw [8] (fun i wr => (i = .int .i64 0 ∧ wr = w) ∨ (i = .int .i64 1 ∧ Q1 0 wr) ∨ (i = .int .i64 2 ∧ Q2 0 wr) ∨ (i = .int .i64 3 ∧ Q3 0 wr)) (fun i _ => 3 - (intOf i).toNat)
  case atStart => exact .inl ⟨rfl, rfl⟩
  case round =>
    rcases hrel with ⟨rfl, rfl⟩ | ⟨rfl, hq⟩ | ⟨rfl, hq⟩ | ⟨rfl, hq⟩
    · have hcf := HF1.out
      go_wp2_with fail
      refine H1.out.mono ?_
      rintro e w1 ⟨n, rfl, hq⟩
      by_cases hn : n = 0
      · subst hn
        have HQ := Lib.hid hq
        clear hq
        go_wp2_with fail
        refine ⟨(.inr (.inl ⟨rfl, HQ.out⟩)), by simp [intOf]⟩
      · have hn1 : (n != 0) = true := by simp [hn]
        have hn2 : (n == 0) = false := by simp [hn]
        have HQ := Lib.hid hq
        clear hq
        go_wp2_with fail
        go_ret
        exact ⟨n, rfl, (.inl ⟨hn, HQ.out⟩)⟩
    · have x1 := (HG1.out _ _ hq).cell 1
      simp at x1
      have hcf := HF2.out
      have hcall := H2.out _ hq
      have HCALL := Lib.hid hcall
      clear hq hcall
      go_wp2_with fail
      refine HCALL.out.mono ?_
      rintro e w1 ⟨n, rfl, hq⟩
      by_cases hn : n = 0
      · subst hn
        have HQ := Lib.hid hq
        clear hq
        go_wp2_with fail
        refine ⟨(.inr (.inr (.inl ⟨rfl, HQ.out⟩))), by simp [intOf]⟩
      · have hn1 : (n != 0) = true := by simp [hn]
        have hn2 : (n == 0) = false := by simp [hn]
        have HQ := Lib.hid hq
        clear hq
        go_wp2_with fail
        go_ret
        exact ⟨n, rfl, (.inr (.inl ⟨hn, HQ.out⟩))⟩
    · have x2 := (HG2.out _ _ hq).cell 2
      simp at x2
      have hcf := HF3.out
      have hcall := H3.out _ hq
      have HCALL := Lib.hid hcall
      clear hq hcall
      go_wp2_with fail
      refine HCALL.out.mono ?_
      rintro e w1 ⟨n, rfl, hq⟩
      by_cases hn : n = 0
      · subst hn
        have HQ := Lib.hid hq
        clear hq
        go_wp2_with fail
        refine ⟨(.inr (.inr (.inr ⟨rfl, HQ.out⟩))), by simp [intOf]⟩
      · have hn1 : (n != 0) = true := by simp [hn]
        have hn2 : (n == 0) = false := by simp [hn]
        have HQ := Lib.hid hq
        clear hq
        go_wp2_with fail
        go_ret
        exact ⟨n, rfl, (.inr (.inr HQ.out))⟩
    · have HQ := Lib.hid hq
      clear hq
      go_wp2_with fail
      go_ret
      exact ⟨0, rfl, (.inr (.inr HQ.out))⟩
end Go.Proofs.YtjfbcjmnjlehaaaGreatDoor
namespace Go.Proofs.YtjfbcjmnjlehaaaGreatDoor
open Go.RowKit
set_option linter.unusedVariables false
set_option linter.unusedSimpArgs false

theorem byteCells_one (s : ByteArray) : ∀ u ∈ byteCells s, u.oneCell' = true := fun u hu => by
  unfold byteCells at hu
  obtain ⟨x, _, rfl⟩ := List.mem_map.1 hu
  rfl
set_option maxRecDepth 100000 in
set_option maxHeartbeats 2000000 in
theorem clone_bytes (v : Value) (s : ByteArray) (hpos : 0 < s.size) (hl : s.size ≤ 1048576) (w : World) (h : Own w 5 1 v s.size (byteCells s)) :
    Calls Tryz.prog 113 #[v] w fun e w' => ∃ g cap, e = .returned (.slice (some ⟨g, 0, none⟩) s.size cap) ∧ Own w' 5 1 (.slice (some ⟨g, 0, none⟩) s.size cap) s.size (byteCells s) ∧ Chg (fun _ => False) w w' ∧ w.heap.size ≤ g := by
  obtain ⟨i0, hi0, hz0, hz1, hz2⟩ := info_parts info_u8
  obtain ⟨a, cap, rfl, hn, hb, hr⟩ := h.reads
  obtain ⟨b, rfl, hbl, _, hcell⟩ := hr hpos
  have hcells : ∀ j u, (byteCells s)[j]? = some u → w.cell? ((⟨b, 0, none⟩ : Addr).add j) = some u := fun j u hu => by
    have e : (⟨b, 0, none⟩ : Addr).add j = ⟨b, j, none⟩ := by rw [Addr.add_lit]; simp
    rw [e]
    exact hcell j u hu
  have hil : (byteCells s).length = s.size * 1 := h.1
  have HCE := Lib.hid hcells
  have HIL := Lib.hid hil
  clear hcells hr hil hcell h
  have hq : (binOp .eql 60 (.slice (some ⟨b, 0, none⟩) s.size cap) (.slice none 0 0)).run Tryz.prog w = .ok (.bool false) w := Lib.run_eql_slice_nil w 60 5 (some ⟨b, 0, none⟩) s.size cap 0 0 Tryz.underlying60
  generalize hll : s.size = n at *
  have HLL := Lib.hid hll
  clear hll
  go_enter Tryz.func113, Tryz.ntmps113
  go_wp2_with (at_builtin; refine wpList_own_append _ rfl _ _ _ _ rfl 5 i0 (.int .u8 0) 1 1 Tryz.underlying60 hi0 hz0 hz1 hz2 rfl (.slice (some ⟨w.heap.size, 0, none⟩) 0 0) 0 [] rfl ⟨rfl, .inr ⟨w.heap.size, 0, #[], rfl, heap_alloc_new _ _, Nat.le_refl _, Nat.zero_le _, Nat.le_refl _, rfl⟩⟩ _ n (byteCells s) rfl (Src.ofSlice _ Tryz.underlying60 ⟨b, 0, none⟩ n cap _ HIL.out (fun j u hu => ?c1) (byteCells_one s)) (by unfold maxLen; omega) (by omega) ?_)
  case c1 =>
    have hc := HCE.out j u hu
    rw [World.cell?_alloc_lt _ _ _ (cell_lt hc)]
    exact hc
  intro v' w2 hown hg hvb
  have hc2 : Chg (fun k => k = w.heap.size) (w.alloc (.cells #[] 5)) w2 := (Chg.refl _ _).grown hg (fun k e _ => by simp [Value.ownBlock] at e; exact e.symm)
  have hcw : Chg (fun _ => False) w w2 := ((Chg.refl (fun _ => False) w).alloc _).own hc2 (Nat.le_refl _)
  have hge : ∀ k, v'.ownBlock = some k → w.heap.size ≤ k := fun k hk => by
    rcases hvb with e | e
    · rw [e] at hk; simp [Value.ownBlock] at hk; omega
    · rw [e] at hk; injection hk with hk; omega
  have hown' : Own w2 5 1 v' n (byteCells s) := by simpa using hown
  obtain ⟨a2, cap2, rfl, _, _, hr2⟩ := hown'.reads
  obtain ⟨b2, rfl, _, hb2, _⟩ := hr2 hpos
  have HO := Lib.hid hown'
  have HCW := Lib.hid hcw
  have HGE := Lib.hid hge
  clear hown hg hvb hc2 hcw hge hown' hr2
  go_wp2_with fail
  go_ret
  exact ⟨b2, cap2, rfl, HO.out, HCW.out, HGE.out b2 rfl⟩

def xorAt (s : ByteArray) (j : Nat) (x : UInt8) : ByteArray := ⟨s.data.modify j fun b => b ^^^ x⟩
def spoilB (s : ByteArray) (bit : Int) : ByteArray := xorAt s ((restI bit (8 * s.size)).toNat / 8) (UInt8.ofNat (1 <<< ((restI bit (8 * s.size)).toNat % 8)))
def spoilD (D : DiskV) (n : ByteArray) (bit : Int) : DiskV := match look D.names n with | some i => if (dataOf D i).size = 0 then D else setF D i (fun f => ⟨spoilB f.data bit, f.lasts⟩) | none => D
theorem xorAt_size (s : ByteArray) (j : Nat) (x : UInt8) : (xorAt s j x).size = s.size := by
  unfold xorAt
  exact Array.size_modify
theorem xorAt_cells (s : ByteArray) (j : Nat) (x : UInt8) (hj : j < s.size) : byteCells (xorAt s j x) = (byteCells s).set j (.int .u8 ((s.data[j] ^^^ x).toNat : Nat)) := by
  unfold byteCells xorAt
  rw [Array.toList_modify]
  have hj' : j < s.data.toList.length := by rw [Array.length_toList]; exact hj
  rw [modify_set _ _ hj', List.map_set]
  simp
theorem xor_bits (b : UInt8) (q : Nat) (hq : q < 8) : bits BinOp.xor IntKind.u8 (b.toNat : Int) (2 ^ q % 256) = (((b ^^^ UInt8.ofNat (1 <<< q)).toNat : Nat) : Int) := by
  have h : ∀ n : Fin 256, ∀ q : Fin 8, bits BinOp.xor IntKind.u8 ((n.val : Nat) : Int) (2 ^ q.val % 256) = (((UInt8.ofNat n.val ^^^ UInt8.ofNat (1 <<< q.val)).toNat : Nat) : Int) := by decide +kernel
  have := h ⟨b.toNat, b.toNat_lt⟩ ⟨q, hq⟩
  simpa using this
theorem spoil_ok {D : DiskV} (h : DiskOk D) (n : ByteArray) (bit : Int) : DiskOk (spoilD D n bit) := by
  unfold spoilD
  split
  · split
    · exact h
    · refine setF_ok h fun f hf => ?_
      have := h.file f (List.mem_of_getElem? hf)
      simp only [spoilB, xorAt_size]
      exact this
  · exact h

set_option maxRecDepth 100000 in
set_option maxHeartbeats 4000000 in
theorem disk_spoil (d : Nat) (ids : List Nat) (D : DiskV) (M : Nat → Prop) (n : ByteArray) (bit : Int) (hn : n.size ≤ maxLen) (hb1 : -9223372036854775808 ≤ bit) (hb2 : bit ≤ 9223372036854775807) (w : World) (h : DiskAt w d ids D M) :
    Calls Tryz.prog 64 #[.pointer (some ⟨d, 0, none⟩), .string n, .int .i64 bit] w fun e w' => e = .returned (.tuple #[]) ∧ DPost w d ids M (spoilD D n bit) w' := by
  have hat := h
  obtain ⟨hok, y, h⟩ := h
  have c2 := h.blk.cell 2
  simp at c2
  obtain ⟨l, hl⟩ := skey_of n hn
  obtain ⟨m, f, hm, ht, _⟩ := h.names
  have hlk := hm.look skey_law Tryz.underlying61 (zero_pfile w) hl true
  unfold spoilD
  cases hk : look D.names n with
  | none =>
    rw [ntells_miss ht hk] at hlk
    have hlk' : (Instr.lookup 61 (.map (some y.nm)) (.string n) true).run Tryz.prog w = .ok (.tuple #[.pointer none, .bool false]) w := hlk
    have HP := Lib.hid (DPost.same hat hat.lt (Chg.refl _ _))
    clear h hm ht hl hok hlk hk hat
    go_enter Tryz.func64, Tryz.ntmps64
    go_wp2_with fail
    first | go_end0 | refine bodyPost_ret (results_none rfl _ _ _) rfl ?_
    exact ⟨rfl, HP.out⟩
  | some i =>
    rw [ntells_hit ht hk] at hlk
    have hi := hok.names.lt _ (look_some hk)
    obtain ⟨id, v, e1, e2, hb, ho⟩ := h.files.at_ hi
    have hfp : fptr ids i = .pointer (some ⟨id, 0, none⟩) := by unfold fptr; rw [List.getD_eq_getElem?_getD, e1]; rfl
    have hlk' : (Instr.lookup 61 (.map (some y.nm)) (.string n) true).run Tryz.prog w = .ok (.tuple #[fptr ids i, .bool true]) w := hlk
    rw [hfp] at hlk'
    have hd : dataOf D i = D.files[i].data := by unfold dataOf; rw [List.getElem?_eq_getElem hi]
    obtain ⟨va, vc, rfl, _, _, _⟩ := ho.reads
    have z0 := hb.cell 0
    have zf0 := hb.frozen 0
    have hidl := hb.lt
    simp at z0
    simp only [hd]
    by_cases hz : D.files[i].data.size = 0
    · rw [if_pos hz]
      have HP := Lib.hid (DPost.same hat hat.lt (Chg.refl _ _))
      have hz' : ¬ ((0 : Int) < (D.files[i].data.size : Int)) := by omega
      clear h hm ht hl hok hlk hk hat hb ho e1 e2 hd hfp
      go_enter Tryz.func64, Tryz.ntmps64
      go_wp2_with fail
      first | go_end0 | refine bodyPost_ret (results_none rfl _ _ _) rfl ?_
      exact ⟨rfl, HP.out⟩
    · rw [if_neg hz]
      have hpos : 0 < D.files[i].data.size := by omega
      have hsz : D.files[i].data.size ≤ 1048576 := (hok.file _ (List.getElem_mem hi)).2
      obtain ⟨r0, r1⟩ := restI_bd (n := bit) (b := 8 * (D.files[i].data.size : Int)) (by omega)
      obtain ⟨K, hK⟩ : ∃ K : Nat, restI bit (8 * (D.files[i].data.size : Int)) = K := ⟨_, (Int.toNat_of_nonneg r0).symm⟩
      have hrest := fun W => disk_rest bit (8 * (D.files[i].data.size : Int)) (by omega) (by omega) hb1 hb2 W
      rw [hK] at hrest r1
      have hcl := fun W (hW : Chg (fun _ => False) w W) => clone_bytes _ D.files[i].data hpos hsz W (ho.same hW)
      have hKj : K / 8 < D.files[i].data.size := by omega
      have hw8 : IntKind.i64.wrap (8 * (D.files[i].data.size : Int)) = 8 * (D.files[i].data.size : Int) := IntWalk.i64_in _ (by omega)
      have H := Lib.hid h
      have HO := Lib.hid ho
      have HOK := Lib.hid hok
      have HR := Lib.hid hrest
      have HCL := Lib.hid hcl
      have HK := Lib.hid hK
      have HE1 := Lib.hid e1
      have HE2 := Lib.hid e2
      have HB := Lib.hid hb
      clear h hm ht hl hok hlk hk hat hb ho e1 e2 hd hfp hrest hcl hK
      generalize hdt : D.files[i].data = dt at *
      have HDT := Lib.hid hdt
      clear hdt
      have hpos' : (0 : Int) < (dt.size : Int) := by omega
      go_enter Tryz.func64, Tryz.ntmps64
      go_wp2_with fail
      refine (HR.out _).mono ?_
      rintro e w' ⟨rfl, rfl⟩
      go_wp2_with fail
      refine (HCL.out _ (Chg.refl _ _)).mono ?_
      rintro e w1 ⟨g, gc, rfl, hO1, hc1, hg1⟩
      have zf1 := (hc1.frozen (p := ⟨id, 0, none⟩) hidl (by simp)).trans zf0
      have z1 := (hc1.cell (p := ⟨id, 0, none⟩) hidl (by simp)).trans z0
      obtain ⟨b8, hb8⟩ : ∃ b8 : UInt8, b8 = dt.data[K / 8] := ⟨_, rfl⟩
      have hcell : w1.cell? ⟨g, K / 8, none⟩ = some (.int .u8 (b8.toNat : Int)) := by
        obtain ⟨a3, c3, he3, _, _, hr3⟩ := hO1.reads
        obtain ⟨b3, hb3, _, _, hc3⟩ := hr3 hpos
        injection he3 with he3 _ _
        rw [hb3] at he3
        injection he3 with he3
        injection he3 with he3
        rw [he3]
        refine hc3 (K / 8) _ ?_
        unfold byteCells
        rw [List.getElem?_map, Array.getElem?_toList, Array.getElem?_eq_getElem hKj, hb8]
        rfl
      have hfz : w1.frozen? ⟨g, K / 8, none⟩ = false := hO1.frozen rfl _
      have hgl := hO1.lt rfl
      have hgid : ¬ g = id := by omega
      have HO1 := Lib.hid hO1
      have HC1 := Lib.hid hc1
      have HB8 := Lib.hid hb8
      have hdiv : ((K : Int) / 8) = ((K / 8 : Nat) : Int) := by omega
      have hdiv2 : (K : Int).tdiv 8 = ((K / 8 : Nat) : Int) := by rw [Int.tdiv_eq_ediv_of_nonneg (by omega)]; exact hdiv
      have hmod2 : (K : Int).tmod 8 = ((K % 8 : Nat) : Int) := by rw [Int.tmod_eq_emod_of_nonneg (by omega)]; omega
      have hmod : (K : Int) % 8 = ((K % 8 : Nat) : Int) := by omega
      have hlt8 : ((K / 8 : Nat) : Int) < (dt.size : Int) := by omega
      have hm8 : K % 8 < 8 := by omega
      obtain ⟨j, hj⟩ : ∃ j, j = K / 8 := ⟨_, rfl⟩
      obtain ⟨q, hq⟩ : ∃ q, q = K % 8 := ⟨_, rfl⟩
      rw [← hj] at hcell hfz hdiv hdiv2 hlt8
      rw [← hq] at hmod hmod2 hm8
      have HJ := Lib.hid hj
      have HQ := Lib.hid hq
      clear hO1 hc1 hb8 hj hq z0 zf0
      go_wp2_with fail
      go_region
      all_goals
        go_wp2_with fail
        first | go_end0 | refine bodyPost_ret (results_none rfl _ _ _) rfl ?_
        refine ⟨rfl, ?_⟩
        have hx : bits BinOp.xor IntKind.u8 (b8.toNat : Int) (2 ^ q % 256) = (((b8 ^^^ UInt8.ofNat (1 <<< q)).toNat : Nat) : Int) := xor_bits b8 q hm8
        rw [hx]
        obtain ⟨W, hW⟩ : ∃ W, W = (((w1.setCell ⟨id, 0, none⟩ (.slice (some ⟨g, 0, none⟩) dt.size gc)).setCell ⟨g, j, none⟩ (.int .u8 ((b8 ^^^ UInt8.ofNat (1 <<< q)).toNat : Nat))).drew) := ⟨_, rfl⟩
        rw [← hW]
        have hwg : w.heap.size ≤ g := by omega
        have hsetS : Chg (fun k => k = id ∨ k = g) w1 W := by
          rw [hW]
          exact Chg.drew (Chg.setCell (Chg.setCell (Chg.refl _ _) (fun _ => .inl rfl) _) (fun _ => .inr rfl) _)
        have hcS : Chg (fun k => k = id) w W := (HC1.out.mono (by simp)).trans hsetS (fun k hk e => by
          rcases e with e | e
          · exact e
          · omega)
        have hgid2 : id ≠ g := fun e => hgid e.symm
        have hbW : Blk W id 132 #[.slice (some ⟨g, 0, none⟩) dt.size gc, .int .i64 D.files[i].lasts] := by
          have h1 := (HB.out.chg HC1.out (by simp)).set_ 0 (.slice (some ⟨g, 0, none⟩) dt.size gc)
          have h2 := h1.far (p := ⟨g, j, none⟩) hgid2 (.int .u8 ((b8 ^^^ UInt8.ofNat (1 <<< q)).toNat : Nat))
          rw [hW]
          simpa using h2.drew
        have hsp : spoilB dt bit = xorAt dt j (UInt8.ofNat (1 <<< q)) := by
          unfold spoilB
          rw [HK.out, Int.toNat_natCast, HJ.out, HQ.out]
        have hsz2 : (spoilB dt bit).size = dt.size := by rw [hsp, xorAt_size]
        have hoW : Own W 5 1 (.slice (some ⟨g, 0, none⟩) dt.size gc) (spoilB dt bit).size (byteCells (spoilB dt bit)) := by
          have h1 := HO1.out.chg (S := fun k => k = id) (Chg.setOwn (Chg.refl _ w1) 0 (.slice (some ⟨g, 0, none⟩) dt.size gc)) (fun k hk e => by
            simp [Value.ownBlock] at hk; omega)
          have h2 := h1.stored (g := g) rfl j (.int .u8 ((b8 ^^^ UInt8.ofNat (1 <<< q)).toNat : Nat))
          have hjl : j < dt.size := by omega
          have hxc := xorAt_cells dt j (UInt8.ofNat (1 <<< q)) hjl
          have hbj : dt.data[j] = b8 := by rw [HB8.out]; congr 1
          rw [hbj] at hxc
          rw [hsz2, hsp, hxc, hW]
          exact h2
        have hff : D.files[i]? = some D.files[i] := List.getElem?_eq_getElem hi
        obtain ⟨hD1, _⟩ := H.out.setFile (f' := ⟨spoilB dt bit, D.files[i].lasts⟩) hff HE1.out HE2.out hcS (fun k _ e => .inl e) hbW hoW (fun k hk => .inr (by simp [Value.ownBlock] at hk; omega))
        have hsd : setF D i (fun f => ⟨spoilB f.data bit, f.lasts⟩) = { D with files := D.files.set i ⟨spoilB dt bit, D.files[i].lasts⟩ } := by
          unfold setF
          rw [modify_set _ _ hi, HDT.out]
        have hok2 : DiskOk (setF D i (fun f => ⟨spoilB f.data bit, f.lasts⟩)) := setF_ok HOK.out fun f hf => by
          have := HOK.out.file f (List.mem_of_getElem? hf)
          simp only [spoilB, xorAt_size]
          exact this
        refine ⟨ids, ⟨hok2, ?_⟩, List.prefix_refl _, hcS.mono fun k _ e => by rw [e]; exact H.out.mine _ (.inr (.inl (.inl (List.mem_of_getElem? HE1.out))))⟩
        rw [hsd]
        exact ⟨_, hD1⟩
end Go.Proofs.YtjfbcjmnjlehaaaGreatDoor
