/-
  Names of files: the document's File.
  Names of files: both Numbers; the walk of WalNames.
-/
import Derived.Test.YtjfbcjmnjlehaaaGreatDoorZMg20
import Derived.Deep.QuietTactic
import Derived.BigQuiet
import Derived.Laws.Strings
import Derived.Lib.ParseIntBTie
namespace Go.Proofs.YtjfbcjmnjlehaaaGreatDoor
open Go.RowKit Go.Shelf
set_option linter.unusedVariables false
set_option linter.unusedSimpArgs false

theorem run_one (g : Nat) (x : UInt8) (W : World) (h : Blk W g 5 #[.int .u8 (x.toNat : Int)]) : (convert 60 9 (.slice (some ⟨g, 0, none⟩) 1 1)).run Tryz.prog W = .ok (.string ⟨#[x]⟩) W := by
  have ho : Own W 5 1 (.slice (some ⟨g, 0, none⟩) 1 1) (⟨#[x]⟩ : ByteArray).size (byteCells ⟨#[x]⟩) := ⟨rfl, .inr ⟨g, 1, #[.int .u8 (x.toNat : Int)], rfl, h, Nat.le_refl _, by unfold maxLen; omega, Nat.le_refl _, rfl⟩⟩
  exact run_own_string ho
def digB (k n : Nat) : ByteArray := ⟨(digK k n).toArray⟩
theorem digB_size (k n : Nat) : (digB k n).size = k := by
  unfold digB
  simp [ByteArray.size, digK_len]
theorem digB_front (k n : Nat) : (⟨#[u8 (48 + n / 10 ^ k % 10)]⟩ : ByteArray) ++ digB k n = digB (k + 1) n := by
  unfold digB
  rw [digK_front]
  apply ByteArray.ext
  simp
theorem low_at {l : List UInt8} {i : Nat} (h : i < l.length) : ((l.take i).all lowB = true → lowB l[i] = true → (l.take (i + 1)).all lowB = true) := by
  intro h1 h2
  rw [List.take_succ_eq_append_getElem h, List.all_append, h1]
  simp [h2]
set_option maxRecDepth 100000 in
set_option maxHeartbeats 2000000 in
theorem rf_file (k : ByteArray) (n : Int) (hk : k.size ≤ 140737488351232) (h0 : -9223372036854775808 ≤ n) (h1 : n ≤ 9223372036854775807) (w : World) :
    Calls Tryz.prog 9 #[.string k, .int .i64 n] w fun e w' => e = .returned (.string (fileB k n)) ∧ Chg (fun _ => False) w w' := by
  by_cases hbad : k.size = 0 ∨ n < 0 ∨ 99999999 < n
  · have hno : fileB k n = ⟨#[]⟩ := fileB_no (by
      rintro ⟨h, h2, h3⟩
      unfold okKind at h
      rcases hbad with h4 | h4 | h4
      · have : k.data.toList = [] := List.eq_nil_of_length_eq_zero (by rw [Array.length_toList]; exact h4)
        rw [this] at h
        simp at h
      · omega
      · omega)
    rw [hno]
    clear hno
    have ways : k.size = 0 ∨ (k.size ≠ 0 ∧ n < 0) ∨ (k.size ≠ 0 ∧ 0 ≤ n ∧ 99999999 < n) := by omega
    clear hbad
    rcases ways with h | ⟨h, h2⟩ | ⟨h, h2, h3⟩
    · have hd0 : ((k.size : Int) == 0) = true := by rw [h]; rfl
      clear h
      go_enter Tryz.func9, Tryz.ntmps9
      go_wp2_with fail
      go_ret
      exact ⟨rfl, Chg.refl _ _⟩
    · have hd0 : ((k.size : Int) == 0) = false := by rw [beq_eq_false_iff_ne]; omega
      have hd1 : decide (n < 0) = true := by simp; omega
      clear h
      go_enter Tryz.func9, Tryz.ntmps9
      go_wp2_with fail
      go_ret
      exact ⟨rfl, Chg.refl _ _⟩
    · have hd0 : ((k.size : Int) == 0) = false := by rw [beq_eq_false_iff_ne]; omega
      have hd1 : decide (n < 0) = false := by simp; omega
      have hd2 : decide (n ≥ 100000000) = true := by simp; omega
      clear h
      go_enter Tryz.func9, Tryz.ntmps9
      go_wp2_with fail
      go_ret
      exact ⟨rfl, Chg.refl _ _⟩
  · obtain ⟨hk0, hn0, hn1⟩ : k.size ≠ 0 ∧ 0 ≤ n ∧ n ≤ 99999999 := by omega
    clear hbad
    have hlen : k.data.toList.length = k.size := by rw [Array.length_toList]; rfl
    have hd0 : ((k.size : Int) == 0) = false := by rw [beq_eq_false_iff_ne]; omega
    obtain ⟨N, rfl⟩ : ∃ N : Nat, n = (N : Int) := ⟨n.toNat, by omega⟩
    have hN : N ≤ 99999999 := by omega
    have HLEN := Lib.hid hlen
    clear hlen
    go_enter Tryz.func9, Tryz.ntmps9
    go_wp2_with fail
    go_loopw [5] (fun i wr => ∃ j : Nat, j ≤ k.size ∧ i = .int .i64 j ∧ (k.data.toList.take j).all lowB = true ∧ w = wr) (fun i _ => k.size + 1 - (intOf i).toNat)
    case atStart => exact ⟨0, by omega, rfl, by simp, rfl⟩
    case round =>
      obtain ⟨j, hj, rfl, hall, rfl⟩ := hrel
      by_cases hjk : j < k.size
      · have hx := fun w => run_at k j hjk w
        obtain ⟨x, hxe⟩ : ∃ x, k[j] = x := ⟨_, rfl⟩
        rw [hxe] at hx
        have hge : k.data.toList[j]'(by rw [HLEN.out]; exact hjk) = x := by rw [← hxe, Array.getElem_toList]; rfl
        cases hlo : lowB x with
        | true =>
          have hnx := low_at (i := j) (by rw [HLEN.out]; exact hjk) hall (by rw [hge]; exact hlo)
          have hb : 97 ≤ x.toNat ∧ x.toNat ≤ 122 := by simpa [lowB] using hlo
          have hd3 : decide ((x.toNat : Int) < 97) = false := by simp; omega
          have hd4 : decide ((x.toNat : Int) > 122) = false := by simp; omega
          have HNX := Lib.hid hnx
          clear hnx hlo hge hxe hall
          go_wp2_with fail
          go_roundw
          case rel => exact ⟨j + 1, by omega, by go_num, HNX.out, by first | rfl | trivial⟩
          case measure => simp [intOf]; omega
        | false =>
          have hno : fileB k (N : Int) = ⟨#[]⟩ := fileB_no (by
            rintro ⟨h, _⟩
            unfold okKind at h
            simp only [Bool.and_eq_true] at h
            have h4 := List.all_eq_true.1 h.2 x (by rw [← hge]; exact List.getElem_mem _)
            rw [hlo] at h4
            cases h4)
          have hb : ¬ (97 ≤ x.toNat ∧ x.toNat ≤ 122) := fun h => by
            have : lowB x = true := by simpa [lowB] using h
            rw [hlo] at this
            cases this
          have HNO := Lib.hid hno
          clear hno hlo hge hxe hall
          by_cases h97 : x.toNat < 97
          · have hd3 : decide ((x.toNat : Int) < 97) = true := by simp; omega
            go_wp2_with fail
            go_ret
            exact ⟨by rw [HNO.out]; rfl, Chg.refl _ _⟩
          · have hd3 : decide ((x.toNat : Int) < 97) = false := by simp; omega
            have hd4 : decide ((x.toNat : Int) > 122) = true := by simp; omega
            go_wp2_with fail
            go_ret
            exact ⟨by rw [HNO.out]; rfl, Chg.refl _ _⟩
      · obtain rfl : j = k.size := by omega
        rw [List.take_of_length_le (by rw [HLEN.out]; exact Nat.le_refl _)] at hall
        have hok : okKind k.data.toList = true := by
          unfold okKind
          rw [hall]
          have h4 : k.data.toList ≠ [] := fun e => by
            have h5 := HLEN.out
            rw [e] at h5
            exact hk0 h5.symm
          rw [List.isEmpty_eq_false_iff.2 h4]
          rfl
        have hyes := fileB_yes (n := (N : Int)) ⟨hok, by omega, by omega⟩
        rw [Int.toNat_natCast] at hyes
        have HYES := Lib.hid hyes
        clear hok hall hyes
        go_wp2_with fail
        go_loopw [6, 7, 1] (fun s i n wr => ∃ q : Nat, q ≤ 8 ∧ i = .int .i64 q ∧ s = .string (digB q N) ∧ n = .int .i64 ((N / 10 ^ q : Nat) : Int) ∧ Chg (fun _ => False) w wr) (fun _ i _ _ => 9 - (intOf i).toNat)
        case atStart => exact ⟨0, by omega, rfl, rfl, by simp, Chg.refl _ _⟩
        case round =>
          obtain ⟨q, hq, rfl, rfl, rfl, hcr⟩ := hrel
          by_cases hq8 : q < 8
          · obtain ⟨M, hM⟩ : ∃ M, N / 10 ^ q = M := ⟨_, rfl⟩
            have hM8 : M ≤ 99999999 := by rw [← hM]; exact Nat.le_trans (Nat.div_le_self _ _) hN
            obtain ⟨x, hx⟩ : ∃ x, u8 (48 + M % 10) = x := ⟨_, rfl⟩
            have hxn : x.toNat = 48 + M % 10 := by rw [← hx]; exact u8_nat (by omega)
            have hfr := digB_front q N
            rw [hM, hx] at hfr
            have hnext : N / 10 ^ (q + 1) = M / 10 := by rw [Nat.pow_succ, ← Nat.div_div_eq_div_mul, hM]
            have hsz := digB_size q N
            obtain ⟨sq, hsq⟩ : ∃ sq, digB q N = sq := ⟨_, rfl⟩
            rw [hsq] at hfr hsz ⊢
            rw [hM]
            have et : (M : Int).tmod 10 = (M : Int) % 10 := Int.tmod_eq_emod_of_nonneg (by omega)
            have e2 : 48 + (M : Int) % 10 = (x.toNat : Int) := by rw [hxn]; omega
            have e3 : (M : Int).tdiv 10 = ((M / 10 : Nat) : Int) := by rw [Int.tdiv_eq_ediv_of_nonneg (by omega)]; omega
            have hcv := run_one wr.heap.size x (wr.alloc (.cells #[.int .u8 (x.toNat : Int)] 5)) (Blk.new _ _ _)
            have hone : (⟨#[x]⟩ : ByteArray).size = 1 := rfl
            have HFR := Lib.hid hfr
            have HNX := Lib.hid hnext
            have HCR := Lib.hid hcr
            clear hfr hnext hsq hM hx hxn hcr
            go_wp2_with fail
            go_roundw
            case rel => exact ⟨q + 1, by omega, by go_num, by rw [← HFR.out], by rw [HNX.out]; simp, by have := HCR.out; ((repeat (first | exact Chg.refl _ _ | assumption | refine Chg.drewN ?_ _ | refine Chg.drew ?_ | refine Chg.alloc ?_ _ | refine Chg.setCell ?_ (by first | (simp; done) | (simp; omega) | (intro h; simp at h; omega)) _)))⟩
            case measure => simp [intOf]; omega
          · obtain rfl : q = 8 := by omega
            have hsz := digB_size 8 N
            have HCR := Lib.hid hcr
            clear hcr
            go_wp2_with fail
            go_ret
            exact ⟨by rw [HYES.out]; rfl, HCR.out⟩
end Go.Proofs.YtjfbcjmnjlehaaaGreatDoor
namespace Go.Proofs.YtjfbcjmnjlehaaaGreatDoor
open Go.RowKit Go.Shelf
set_option linter.unusedVariables false
set_option linter.unusedSimpArgs false

/-- The library's two errors hold what an interface may. -/
def ErrOk (w : World) : Prop := ∃ t1 p1 t2 p2, w.cell? ⟨0, 0, none⟩ = some (.iface t1 p1) ∧ w.cell? ⟨1, 0, none⟩ = some (.iface t2 p2)
theorem ErrOk.chg {w w' : World} (h : ErrOk w) (hc : Chg (fun _ => False) w w') : ErrOk w' := by
  obtain ⟨t1, p1, t2, p2, h1, h2⟩ := h
  exact ⟨t1, p1, t2, p2, (hc.cell (cell_lt h1) (by simp)).trans h1, (hc.cell (cell_lt h2) (by simp)).trans h2⟩
theorem ren_parse : Tryz.parseInt_ren.f 174 = 24 := by kernel_rfl
theorem ren_ps : Tryz.parseInt_ren.g 15 = 0 := by kernel_rfl
theorem ren_pr : Tryz.parseInt_ren.g 16 = 1 := by kernel_rfl
theorem ren_cut : Tryz.cutPre_ren.f 103 = 23 := by kernel_rfl
def ParsePost (w : World) (s : ByteArray) (e : Ending) (w' : World) : Prop :=
  ((∃ v, Lib.parseIntB 64 s.data.toList = .ok v ∧ e = .returned (.tuple #[.int .i64 v, .nilIface])) ∨ ((∀ v, Lib.parseIntB 64 s.data.toList ≠ .ok v) ∧ ∃ x t p, e = .returned (.tuple #[.int .i64 x, .iface t p]))) ∧ Chg (fun _ => False) w w'
theorem parse_int (s : ByteArray) (hs : s.size ≤ 1000) (w : World) (he : ErrOk w) : Calls Tryz.prog 24 #[.string s, .int .i64 10, .int .i64 64] w (ParsePost w s) := by
  obtain ⟨t1, p1, t2, p2, h1, h2⟩ := he
  rw [← ren_ps] at h1
  rw [← ren_pr] at h2
  rw [← ren_parse]
  cases h : Lib.parseIntB 64 s.data.toList
  case ok v =>
    refine (Any.strconv_ParseInt_10_at64_ok Tryz.parseInt s (by omega) v h w).mono fun e w' ⟨he, hw⟩ => ⟨.inl ⟨v, h, he⟩, ?_⟩
    rcases hw with rfl | ⟨t, rfl⟩
    · exact Chg.refl _ _
    · exact Chg.of_below (Lib.bytesWorld_below _ _ _)
  all_goals
    first
    | refine (Any.strconv_ParseInt_10_at64_syntax Tryz.parseInt s (by omega) h _ w h1 (.inr ⟨t1, p1, rfl⟩)).mono fun e w' ⟨N, he, _, _, hb⟩ => ⟨.inr ⟨fun v hv => ?_, _, _, _, he⟩, Chg.of_below hb⟩
    | refine (Any.strconv_ParseInt_10_at64_range Tryz.parseInt s (by omega) h _ w h2 (.inr ⟨t2, p2, rfl⟩)).mono fun e w' ⟨N, he, _, _, hb⟩ => ⟨.inr ⟨fun v hv => ?_, _, _, _, he⟩, Chg.of_below hb⟩
    rw [h] at hv
    cases hv
theorem cut_prefix (s p : ByteArray) (w : World) : Calls Tryz.prog 23 #[.string s, .string p] w fun e w' => e = .returned (.tuple #[.string ⟨(Lib.trimPrefix s.data.toList p.data.toList).toArray⟩, .bool (Lib.hasPrefix s.data.toList p.data.toList)]) ∧ w' = w := by
  have h := Any.strings_CutPrefix Tryz.cutPre s p w
  rw [ren_cut] at h
  exact h
theorem ba_eq {a b : ByteArray} (h : a.data.toList = b.data.toList) : a = b := ByteArray.ext (Array.ext' h)
theorem ba_test (a b : ByteArray) : (a.toList == b.toList) = decide (a = b) := by
  rw [ByteArray.toList_eq, ByteArray.toList_eq]
  by_cases h : a = b
  · subst h; simp
  · have : a.data.toList ≠ b.data.toList := fun e => h (ba_eq e)
    rw [beq_eq_false_iff_ne.2 this]
    simp [h]
def NumPost (w : World) (k s : ByteArray) (e : Ending) (w' : World) : Prop :=
  e = .returned (.tuple #[.int .i64 (numL k.data.toList s.data.toList).1, .bool (numL k.data.toList s.data.toList).2]) ∧ Chg (fun _ => False) w w'
set_option maxRecDepth 100000 in
set_option maxHeartbeats 2000000 in
theorem wal_number (k s : ByteArray) (hk : k.size ≤ 140737488351232) (hs : s.size ≤ 140737488351232) (w : World) (ht : Tab w) (he : ErrOk w) :
    Calls Tryz.prog 5 #[.string k, .string s] w (NumPost w k s) := by
  have hcut := fun w => cut_prefix s (k ++ ⟨#[45]⟩) w
  have hnum := num_prog k.data.toList s.data.toList
  have hpl : (k ++ ⟨#[45]⟩ : ByteArray).data.toList = k.data.toList ++ [45] := by simp
  rw [hpl] at hcut
  have hrl : (⟨(Lib.trimPrefix s.data.toList (k.data.toList ++ [45])).toArray⟩ : ByteArray).data.toList = Lib.trimPrefix s.data.toList (k.data.toList ++ [45]) := rfl
  obtain ⟨r, hr⟩ : ∃ r, (⟨(Lib.trimPrefix s.data.toList (k.data.toList ++ [45])).toArray⟩ : ByteArray) = r := ⟨_, rfl⟩
  obtain ⟨hp, hhp⟩ : ∃ hp, Lib.hasPrefix s.data.toList (k.data.toList ++ [45]) = hp := ⟨_, rfl⟩
  rw [hr] at hcut hrl
  rw [← hrl, hhp] at hnum
  rw [hhp] at hcut
  have hrz : r.data.toList.length = r.size := by rw [Array.length_toList]; rfl
  rw [hrz] at hnum
  have hfile := fun v h0 h1 w ht => wal_file k v hk h0 h1 w ht
  have HCUT := Lib.hid hcut
  have HNUM := Lib.hid hnum
  have HF := Lib.hid hfile
  have HT := Lib.hid ht
  have HE := Lib.hid he
  clear hcut hnum hpl hrl hr hhp hrz hfile ht he
  have main : ∀ x b, numL k.data.toList s.data.toList = (x, b) → Calls Tryz.prog 5 #[.string k, .string s] w fun e w' => e = .returned (.tuple #[.int .i64 x, .bool b]) ∧ Chg (fun _ => False) w w' := by
    intro x b hxb
    have hn := HNUM.out
    rw [hxb] at hn
    clear hxb HNUM
    cases hp with
    | false =>
      rw [if_neg (by simp)] at hn
      injection hn with hx hb
      subst hx hb
      go_enter Tryz.func5, Tryz.ntmps5
      go_wp2_with fail
      refine (HCUT.out _).mono ?_
      rintro e w1 ⟨rfl, rfl⟩
      go_wp2_with fail
      go_ret2
      exact ⟨rfl, Chg.refl _ _⟩
    | true =>
      by_cases hz : r.size = 8
      · rw [if_pos ⟨rfl, hz⟩] at hn
        have hz2 : ((r.size : Int) == 8) = true := by rw [hz]; rfl
        have hpa := fun w he => parse_int r (by omega) w he
        have HPA := Lib.hid hpa
        have HN := Lib.hid hn
        clear hpa hn hz
        go_enter Tryz.func5, Tryz.ntmps5
        go_wp2_with fail
        refine (HCUT.out _).mono ?_
        rintro e w1 ⟨rfl, rfl⟩
        go_wp2_with fail
        refine (HPA.out _ HE.out).mono ?_
        rintro e w2 ⟨⟨v, hv, rfl⟩ | ⟨hno, y, t, p, rfl⟩, hc2⟩
        · have hn := HN.out
          rw [hv] at hn
          have hbd := Lib.parseIntB_bounds hv
          have hff := HF.out v (by simp at hbd; omega) (by simp at hbd; omega) w2 (HT.out.chg hc2)
          obtain ⟨f, hf⟩ : ∃ f, fileB k v = f := ⟨_, rfl⟩
          have hfl : fileL k.data.toList v = f.data.toList := by rw [← hf]; rfl
          rw [hf] at hff
          simp only [hfl] at hn
          have htest := ba_test f s
          by_cases hfs : f = s
          · rw [if_pos (by rw [hfs])] at hn
            injection hn with hx hb
            subst hx hb
            rw [decide_eq_true hfs] at htest
            have HFF := Lib.hid hff
            have HC2 := Lib.hid hc2
            clear hff hc2 hv hfl hf hfs HN hbd
            go_wp2_with fail
            refine HFF.out.mono ?_
            rintro e w3 ⟨rfl, hc3⟩
            have HC3 := Lib.hid (HC2.out.then hc3)
            clear hc3
            go_wp2_with fail
            go_ret2
            exact ⟨rfl, HC3.out⟩
          · rw [if_neg (fun e => hfs (ba_eq e))] at hn
            injection hn with hx hb
            subst hx hb
            rw [decide_eq_false hfs] at htest
            have HFF := Lib.hid hff
            have HC2 := Lib.hid hc2
            clear hff hc2 hv hfl hf hfs HN hbd
            go_wp2_with fail
            refine HFF.out.mono ?_
            rintro e w3 ⟨rfl, hc3⟩
            have HC3 := Lib.hid (HC2.out.then hc3)
            clear hc3
            go_wp2_with fail
            go_ret2
            exact ⟨rfl, HC3.out⟩
        · have hn := HN.out
          have h2 : (x, b) = ((0 : Int), false) := by
            rw [hn]
            split
            · rename_i v hv
              exact absurd hv (hno v)
            · rfl
          injection h2 with hx hb
          subst hx hb
          have HC2 := Lib.hid hc2
          clear hc2 hno hn HN
          go_wp2_with fail
          go_ret2
          exact ⟨rfl, HC2.out⟩
      · rw [if_neg (fun h => hz h.2)] at hn
        injection hn with hx hb
        subst hx hb
        have hz2 : ((r.size : Int) == 8) = false := by rw [beq_eq_false_iff_ne]; omega
        clear hz
        go_enter Tryz.func5, Tryz.ntmps5
        go_wp2_with fail
        refine (HCUT.out _).mono ?_
        rintro e w1 ⟨rfl, rfl⟩
        go_wp2_with fail
        go_ret2
        exact ⟨rfl, Chg.refl _ _⟩
  exact main _ _ rfl
end Go.Proofs.YtjfbcjmnjlehaaaGreatDoor
