/-
  Names of files: both Numbers; the walk of WalNames.
  The plain model of a version: tables in four levels, edits, what an edit makes of a version; and of the document's version: one list. Plain Lean over lists; no program; no condition.
  What an edit makes of a version, by the program's way and by the document's: plain Lean over lists; no program; no condition.
  Versions in memory: tables, places, the document's tables as lists; and the small calls: good, over, ahead, has, files.
-/
import Derived.Test.YtahahginmgidjaaGreatDoorZMg12
import Derived.Lib.ParseIntBTie
import Derived.WalkKit
import Derived.WalkLawsBesides
import Derived.Sort.Walk0
import Derived.Test.YtahahginmgidjaaGreatDoorZMg08
namespace Go.Proofs.YtahahginmgidjaaGreatDoor
open Go.RowKit Go.Shelf
set_option linter.unusedVariables false
set_option linter.unusedSimpArgs false

/-- The library's two errors hold what an interface may. -/
def ErrOk (w : World) : Prop := ∃ t1 p1 t2 p2, w.cell? ⟨1, 0, none⟩ = some (.iface t1 p1) ∧ w.cell? ⟨2, 0, none⟩ = some (.iface t2 p2)
theorem ErrOk.chg {w w' : World} (h : ErrOk w) (hc : Chg (fun _ => False) w w') : ErrOk w' := by
  obtain ⟨t1, p1, t2, p2, h1, h2⟩ := h
  exact ⟨t1, p1, t2, p2, (hc.cell (World.block_lt_of_cell? w _ h1) (by simp)).trans h1, (hc.cell (World.block_lt_of_cell? w _ h2) (by simp)).trans h2⟩
theorem ren_parse : Tryz.parseInt_ren.f 174 = 143 := by kernel_rfl
theorem ren_ps : Tryz.parseInt_ren.g 15 = 1 := by kernel_rfl
theorem ren_pr : Tryz.parseInt_ren.g 16 = 2 := by kernel_rfl
theorem ren_cut : Tryz.cutPre_ren.f 103 = 142 := by kernel_rfl
def ParsePost (w : World) (s : ByteArray) (e : Ending) (w' : World) : Prop :=
  ((∃ v, Lib.parseIntB 64 s.data.toList = .ok v ∧ e = .returned (.tuple #[.int .i64 v, .nilIface])) ∨ ((∀ v, Lib.parseIntB 64 s.data.toList ≠ .ok v) ∧ ∃ x t p, e = .returned (.tuple #[.int .i64 x, .iface t p]))) ∧ Chg (fun _ => False) w w'
theorem parse_int (s : ByteArray) (hs : s.size ≤ 1000) (w : World) (he : ErrOk w) : Calls Tryz.prog 143 #[.string s, .int .i64 10, .int .i64 64] w (ParsePost w s) := by
  obtain ⟨t1, p1, t2, p2, h1, h2⟩ := he
  rw [← ren_ps] at h1
  rw [← ren_pr] at h2
  rw [← ren_parse]
  cases h : Lib.parseIntB 64 s.data.toList
  case ok v =>
    refine (Any.strconv_ParseInt_10_at64_ok Tryz.parseInt s (by omega) v h w).mono fun e w' ⟨he, hw⟩ => ⟨.inl ⟨v, h, he⟩, ?_⟩
    rcases hw with rfl | ⟨t, rfl⟩
    · exact Chg.refl _ _
    · exact Chg.of_below (Lib.bytesWorld_below _ _ _)
  all_goals
    first
    | refine (Any.strconv_ParseInt_10_at64_syntax Tryz.parseInt s (by omega) h _ w h1 (.inr ⟨t1, p1, rfl⟩)).mono fun e w' ⟨N, he, _, _, hb⟩ => ⟨.inr ⟨fun v hv => ?_, _, _, _, he⟩, Chg.of_below hb⟩
    | refine (Any.strconv_ParseInt_10_at64_range Tryz.parseInt s (by omega) h _ w h2 (.inr ⟨t2, p2, rfl⟩)).mono fun e w' ⟨N, he, _, _, hb⟩ => ⟨.inr ⟨fun v hv => ?_, _, _, _, he⟩, Chg.of_below hb⟩
    rw [h] at hv
    cases hv
theorem cut_prefix (s p : ByteArray) (w : World) : Calls Tryz.prog 142 #[.string s, .string p] w fun e w' => e = .returned (.tuple #[.string ⟨(Lib.trimPrefix s.data.toList p.data.toList).toArray⟩, .bool (Lib.hasPrefix s.data.toList p.data.toList)]) ∧ w' = w := by
  have h := Any.strings_CutPrefix Tryz.cutPre s p w
  rw [ren_cut] at h
  exact h
theorem ba_eq {a b : ByteArray} (h : a.data.toList = b.data.toList) : a = b := ByteArray.ext (Array.ext' h)
theorem ba_test (a b : ByteArray) : (a.toList == b.toList) = decide (a = b) := by
  rw [ByteArray.toList_eq, ByteArray.toList_eq]
  by_cases h : a = b
  · subst h; simp
  · have : a.data.toList ≠ b.data.toList := fun e => h (ba_eq e)
    rw [beq_eq_false_iff_ne.2 this]
    simp [h]
def NumberPost (w : World) (k s : ByteArray) (e : Ending) (w' : World) : Prop :=
  e = .returned (.tuple #[.int .i64 (numL k.data.toList s.data.toList).1, .bool (numL k.data.toList s.data.toList).2]) ∧ Chg (fun _ => False) w w'
set_option maxRecDepth 100000 in
set_option maxHeartbeats 2000000 in
theorem wal_number (k s : ByteArray) (hk : k.size ≤ 140737488351232) (hs : s.size ≤ 140737488351232) (w : World) (ht : Tab w) (he : ErrOk w) :
    Calls Tryz.prog 94 #[.string k, .string s] w (NumberPost w k s) := by
  have hcut := fun w => cut_prefix s (k ++ ⟨#[45]⟩) w
  have hnum := num_prog k.data.toList s.data.toList
  have hpl : (k ++ ⟨#[45]⟩ : ByteArray).data.toList = k.data.toList ++ [45] := by simp
  rw [hpl] at hcut
  have hrl : (⟨(Lib.trimPrefix s.data.toList (k.data.toList ++ [45])).toArray⟩ : ByteArray).data.toList = Lib.trimPrefix s.data.toList (k.data.toList ++ [45]) := rfl
  obtain ⟨r, hr⟩ : ∃ r, (⟨(Lib.trimPrefix s.data.toList (k.data.toList ++ [45])).toArray⟩ : ByteArray) = r := ⟨_, rfl⟩
  obtain ⟨hp, hhp⟩ : ∃ hp, Lib.hasPrefix s.data.toList (k.data.toList ++ [45]) = hp := ⟨_, rfl⟩
  rw [hr] at hcut hrl
  rw [← hrl, hhp] at hnum
  rw [hhp] at hcut
  have hrz : r.data.toList.length = r.size := by rw [Array.length_toList]; rfl
  rw [hrz] at hnum
  have hfile := fun v h0 h1 w ht => wal_file k v hk h0 h1 w ht
  have HCUT := Lib.hid hcut
  have HNUM := Lib.hid hnum
  have HF := Lib.hid hfile
  have HT := Lib.hid ht
  have HE := Lib.hid he
  clear hcut hnum hpl hrl hr hhp hrz hfile ht he
  have main : ∀ x b, numL k.data.toList s.data.toList = (x, b) → Calls Tryz.prog 94 #[.string k, .string s] w fun e w' => e = .returned (.tuple #[.int .i64 x, .bool b]) ∧ Chg (fun _ => False) w w' := by
    intro x b hxb
    have hn := HNUM.out
    rw [hxb] at hn
    clear hxb HNUM
    cases hp with
    | false =>
      rw [if_neg (by simp)] at hn
      injection hn with hx hb
      subst hx hb
      go_enter Tryz.func94, Tryz.ntmps94
      go_wp2_with fail
      refine (HCUT.out _).mono ?_
      rintro e w1 ⟨rfl, rfl⟩
      go_wp2_with fail
      go_ret2
      exact ⟨rfl, Chg.refl _ _⟩
    | true =>
      by_cases hz : r.size = 8
      · rw [if_pos ⟨rfl, hz⟩] at hn
        have hz2 : ((r.size : Int) == 8) = true := by rw [hz]; rfl
        have hpa := fun w he => parse_int r (by omega) w he
        have HPA := Lib.hid hpa
        have HN := Lib.hid hn
        clear hpa hn hz
        go_enter Tryz.func94, Tryz.ntmps94
        go_wp2_with fail
        refine (HCUT.out _).mono ?_
        rintro e w1 ⟨rfl, rfl⟩
        go_wp2_with fail
        refine (HPA.out _ HE.out).mono ?_
        rintro e w2 ⟨⟨v, hv, rfl⟩ | ⟨hno, y, t, p, rfl⟩, hc2⟩
        · have hn := HN.out
          rw [hv] at hn
          have hbd := Lib.parseIntB_bounds hv
          have hff := HF.out v (by simp at hbd; omega) (by simp at hbd; omega) w2 (HT.out.chg hc2)
          obtain ⟨f, hf⟩ : ∃ f, fileB k v = f := ⟨_, rfl⟩
          have hfl : fileL k.data.toList v = f.data.toList := by rw [← hf]; rfl
          rw [hf] at hff
          simp only [hfl] at hn
          have htest := ba_test f s
          by_cases hfs : f = s
          · rw [if_pos (by rw [hfs])] at hn
            injection hn with hx hb
            subst hx hb
            rw [decide_eq_true hfs] at htest
            have HFF := Lib.hid hff
            have HC2 := Lib.hid hc2
            clear hff hc2 hv hfl hf hfs HN hbd
            go_wp2_with fail
            refine HFF.out.mono ?_
            rintro e w3 ⟨rfl, hc3⟩
            have HC3 := Lib.hid (HC2.out.then hc3)
            clear hc3
            go_wp2_with fail
            go_ret2
            exact ⟨rfl, HC3.out⟩
          · rw [if_neg (fun e => hfs (ba_eq e))] at hn
            injection hn with hx hb
            subst hx hb
            rw [decide_eq_false hfs] at htest
            have HFF := Lib.hid hff
            have HC2 := Lib.hid hc2
            clear hff hc2 hv hfl hf hfs HN hbd
            go_wp2_with fail
            refine HFF.out.mono ?_
            rintro e w3 ⟨rfl, hc3⟩
            have HC3 := Lib.hid (HC2.out.then hc3)
            clear hc3
            go_wp2_with fail
            go_ret2
            exact ⟨rfl, HC3.out⟩
        · have hn := HN.out
          have h2 : (x, b) = ((0 : Int), false) := by
            rw [hn]
            split
            · rename_i v hv
              exact absurd hv (hno v)
            · rfl
          injection h2 with hx hb
          subst hx hb
          have HC2 := Lib.hid hc2
          clear hc2 hno hn HN
          go_wp2_with fail
          go_ret2
          exact ⟨rfl, HC2.out⟩
      · rw [if_neg (fun h => hz h.2)] at hn
        injection hn with hx hb
        subst hx hb
        have hz2 : ((r.size : Int) == 8) = false := by rw [beq_eq_false_iff_ne]; omega
        clear hz
        go_enter Tryz.func94, Tryz.ntmps94
        go_wp2_with fail
        refine (HCUT.out _).mono ?_
        rintro e w1 ⟨rfl, rfl⟩
        go_wp2_with fail
        go_ret2
        exact ⟨rfl, Chg.refl _ _⟩
  exact main _ _ rfl
end Go.Proofs.YtahahginmgidjaaGreatDoor
namespace Go.Proofs.YtahahginmgidjaaGreatDoor
set_option linter.unusedVariables false
set_option linter.unusedSimpArgs false

/-! ### The order of strings -/
/-- a < b. -/
def sl (a b : ByteArray) : Bool := Op.bytesLess a.toList b.toList
theorem toList_inj {a b : ByteArray} (h : a.toList = b.toList) : a = b := by
  rw [ByteArray.toList_eq, ByteArray.toList_eq] at h
  cases a; cases b; simp at h; subst h; rfl
theorem sl_eq (a b : ByteArray) : sl a b = decide (a.toList < b.toList) := bytesLess_eq _ _
theorem sl_irrefl (a : ByteArray) : sl a a = false := by rw [sl_eq]; simp [List.lt_irrefl]
theorem sl_trans {a b c : ByteArray} (h1 : sl a b = true) (h2 : sl b c = true) : sl a c = true := by
  rw [sl_eq] at *; simp at *; exact List.lt_trans h1 h2
theorem sl_total {a b : ByteArray} (h1 : sl a b = false) (h2 : sl b a = false) : a = b := by
  rw [sl_eq] at *; simp at *
  exact toList_inj (List.le_antisymm h2 h1)
theorem sl_asymm {a b : ByteArray} (h1 : sl a b = true) : sl b a = false := by
  cases h : sl b a with
  | false => rfl
  | true => have := sl_trans h1 h; rw [sl_irrefl] at this; cases this
theorem sl_ntrans {a b c : ByteArray} (h1 : sl a b = false) (h2 : sl b c = false) : sl a c = false := by
  rw [sl_eq] at *; simp at *; exact List.le_trans h2 h1
theorem sl_le_lt {a b c : ByteArray} (h1 : sl b a = false) (h2 : sl b c = true) : sl a c = true := by
  cases h : sl a c with
  | true => rfl
  | false => have := sl_ntrans h1 h; rw [h2] at this; cases this
theorem sl_lt_le {a b c : ByteArray} (h1 : sl a b = true) (h2 : sl c b = false) : sl a c = true := by
  cases h : sl a c with
  | true => rfl
  | false => have := sl_ntrans h h2; rw [h1] at this; cases this
/-- Go's a <= b, as the walk spells it. -/
theorem sl_leq (a b : ByteArray) : (sl a b || a.toList == b.toList) = !sl b a := by
  cases h : sl a b with
  | true => rw [sl_asymm h]; rfl
  | false =>
    cases h2 : sl b a with
    | true =>
      have : a.toList ≠ b.toList := fun e => by
        have := toList_inj e; subst this; rw [h] at h2; cases h2
      simp [this]
    | false => simp [sl_total h h2]

/-! ### Tables, edits, versions -/
structure MetaV where
  file : Int
  size : Int
  lo : ByteArray
  hi : ByteArray
structure PlaceV where
  level : Int
  m : MetaV
structure EditV where
  add : List PlaceV
  drop : List Int
  log : Int
  next : Int
  seq : Int
/-- A version: the levels 0 to 3 (lv), and three numbers. -/
structure VerV where
  lv : Nat → List MetaV
  log : Int
  next : Int
  seq : Int
def VerV.none : VerV := ⟨fun _ => [], 0, 0, 0⟩
def atLevel (i : Nat) (l : List MetaV) : List PlaceV := l.map fun m => ⟨(i : Int), m⟩
/-- All tables, level by level: the document's list. -/
def flat (S : VerV) : List PlaceV := atLevel 0 (S.lv 0) ++ (atLevel 1 (S.lv 1) ++ (atLevel 2 (S.lv 2) ++ atLevel 3 (S.lv 3)))
def filesOf (l : List PlaceV) : List Int := l.map fun p => p.m.file

/-- Does one table stand ahead of another, of level i? -/
def before (i : Nat) (a b : MetaV) : Bool := if i = 0 then decide (b.file < a.file) else sl a.lo b.lo
def aheadV (a b : PlaceV) : Bool := if a.level ≠ b.level then decide (a.level < b.level) else if a.level = 0 then decide (a.m.file > b.m.file) else sl a.m.lo b.m.lo
/-- x put into l ahead of the first one that it stands ahead of. -/
def insG {α : Type} (f : α → α → Bool) (x : α) : List α → List α
  | [] => [x]
  | y :: r => if f x y then x :: y :: r else y :: insG f x r
def withV (l : List PlaceV) (p : PlaceV) : List PlaceV := insG aheadV p l

def okNums (S : VerV) (E : EditV) : Prop := ¬ (E.log < S.log ∨ E.next < S.next ∨ E.seq < S.seq) ∧ ¬ (E.log ≥ E.next ∧ ¬ (E.log = 0 ∧ E.next = 0))
def okDrops (files : List Int) (drop : List Int) : Prop := (∀ f ∈ drop, f ∈ files) ∧ drop.Nodup
def goodP (next : Int) (p : PlaceV) : Prop := 0 ≤ p.level ∧ p.level < 4 ∧ 0 ≤ p.m.file ∧ p.m.file < next ∧ 0 ≤ p.m.size ∧ sl p.m.hi p.m.lo = false
def okAdds (files : List Int) (next : Int) (add : List PlaceV) : Prop := (∀ p ∈ add, goodP next p ∧ p.m.file ∉ files) ∧ (add.map fun p => p.m.file).Nodup
/-- Two tables have no key in common. -/
def Apart (a b : MetaV) : Prop := sl a.hi b.lo = true ∨ sl b.hi a.lo = true
theorem Apart.symm {a b : MetaV} (h : Apart a b) : Apart b a := h.elim .inr .inl

def kept (drop : List Int) (l : List MetaV) : List MetaV := l.filter fun m => !drop.contains m.file
def keptP (drop : List Int) (l : List PlaceV) : List PlaceV := l.filter fun p => !drop.contains p.m.file
/-- The tables that an edit adds to level i, put in one by one. -/
def addTo (i : Nat) (add : List PlaceV) (l : List MetaV) : List MetaV := add.foldl (fun l p => if p.level = (i : Int) then insG (before i) p.m l else l) l
/-- The version behind an edit, if it may be. -/
def nextV (S : VerV) (E : EditV) : VerV := ⟨fun i => addTo i E.add (kept E.drop (S.lv i)), E.log, E.next, E.seq⟩
def okV (S : VerV) (E : EditV) : Prop := okNums S E ∧ okDrops (filesOf (flat S)) E.drop ∧ okAdds (filesOf (flat S)) E.next E.add ∧ ∀ i, 1 ≤ i → i < 4 → ((nextV S E).lv i).Pairwise Apart
/-! ### What holds of every version -/
structure Good (S : VerV) : Prop where
  files : (filesOf (flat S)).Nodup
  zero : (S.lv 0).Pairwise fun a b => b.file < a.file
  rest : ∀ i, 1 ≤ i → i < 4 → (S.lv i).Pairwise fun a b => sl a.hi b.lo = true
  ends : ∀ i, i < 4 → ∀ m ∈ S.lv i, sl m.hi m.lo = false ∧ 0 ≤ m.file ∧ m.file < S.next
  nums : S.log < S.next ∨ S.log = 0 ∧ S.next = 0
theorem Good.none : Good VerV.none := ⟨by simp [filesOf, flat, atLevel, VerV.none], by simp [VerV.none], by simp [VerV.none], by simp [VerV.none], .inr ⟨rfl, rfl⟩⟩

/-! ### Lists that are sorted -/
section
variable {α : Type} {f : α → α → Bool}
theorem insG_perm (x : α) : ∀ l : List α, (insG f x l).Perm (x :: l)
  | [] => List.Perm.refl _
  | y :: r => by
    unfold insG
    split
    · exact List.Perm.refl _
    · exact ((insG_perm x r).cons y).trans (List.Perm.swap x y r)
theorem insG_mem {x y : α} {l : List α} : y ∈ insG f x l ↔ y = x ∨ y ∈ l := by rw [(insG_perm x l).mem_iff]; simp
/-- Weakly sorted: no later one stands ahead of an earlier one. -/
def Sorted (f : α → α → Bool) (l : List α) : Prop := l.Pairwise fun a b => f b a = false
theorem insG_sorted (ht : ∀ a b c, f a b = true → f b c = true → f a c = true) (hn : ∀ a b c, f a b = false → f b c = false → f a c = false) (hi : ∀ a, f a a = false) (x : α) : ∀ l : List α, Sorted f l → Sorted f (insG f x l)
  | [], _ => by simp [insG, Sorted]
  | y :: r, h => by
    unfold Sorted at h
    obtain ⟨h1, h2⟩ := List.pairwise_cons.1 h
    unfold insG
    split
    · rename_i hxy
      refine List.pairwise_cons.2 ⟨fun z hz => ?_, h⟩
      rcases List.mem_cons.1 hz with rfl | hz
      · cases hc : f z x with
        | false => rfl
        | true => have := ht _ _ _ hxy hc; rw [hi] at this; cases this
      · cases hc : f z x with
        | false => rfl
        | true =>
          have := ht _ _ _ hc hxy
          rw [h1 z hz] at this; cases this
    · rename_i hxy
      refine List.pairwise_cons.2 ⟨fun z hz => ?_, insG_sorted ht hn hi x r h2⟩
      rcases insG_mem.1 hz with rfl | hz
      · simpa using hxy
      · exact h1 z hz
/-- Two strictly sorted lists of the same elements are one. -/
theorem strict_unique (hi : ∀ a, f a a = false) (ht : ∀ a b c, f a b = true → f b c = true → f a c = true) : ∀ {l m : List α}, l.Perm m → (l.Pairwise fun a b => f a b = true) → (m.Pairwise fun a b => f a b = true) → l = m
  | [], m, h, _, _ => (List.Perm.nil_eq h)
  | x :: l, [], h, _, _ => absurd h.length_eq (by simp)
  | x :: l, y :: m, h, h1, h2 => by
    obtain ⟨a1, a2⟩ := List.pairwise_cons.1 h1
    obtain ⟨b1, b2⟩ := List.pairwise_cons.1 h2
    have hx : x = y := by
      have m1 : x ∈ y :: m := h.mem_iff.1 (by simp)
      have m2 : y ∈ x :: l := h.mem_iff.2 (by simp)
      rcases List.mem_cons.1 m1 with e | e
      · exact e
      · rcases List.mem_cons.1 m2 with e' | e'
        · exact e'.symm
        · have := ht _ _ _ (a1 y e') (b1 x e); rw [hi] at this; cases this
    subst hx
    rw [strict_unique hi ht ((List.perm_cons x).1 h) a2 b2]
end
theorem before_irrefl (i : Nat) (a : MetaV) : before i a a = false := by
  unfold before; split
  · simp
  · exact sl_irrefl _
theorem before_trans (i : Nat) (a b c : MetaV) (h1 : before i a b = true) (h2 : before i b c = true) : before i a c = true := by
  unfold before at *
  by_cases h : i = 0
  · simp only [h, if_true, decide_eq_true_eq] at *; omega
  · simp only [h, if_false] at *; exact sl_trans h1 h2
theorem before_ntrans (i : Nat) (a b c : MetaV) (h1 : before i a b = false) (h2 : before i b c = false) : before i a c = false := by
  unfold before at *
  by_cases h : i = 0
  · simp only [h, if_true, decide_eq_false_iff_not] at *; omega
  · simp only [h, if_false] at *; exact sl_ntrans h1 h2
end Go.Proofs.YtahahginmgidjaaGreatDoor
namespace Go.Proofs.YtahahginmgidjaaGreatDoor
set_option linter.unusedVariables false
set_option linter.unusedSimpArgs false

/-! ### The document's list -/
theorem insG_append_left {α : Type} {f : α → α → Bool} {x : α} : ∀ {l r : List α}, (∀ y ∈ l, f x y = false) → insG f x (l ++ r) = l ++ insG f x r
  | [], r, _ => rfl
  | y :: l, r, h => by
    show (if f x y = true then _ else y :: insG f x (l ++ r)) = y :: (l ++ insG f x r)
    rw [if_neg (by rw [h y (by simp)]; simp)]
    rw [insG_append_left (fun z hz => h z (by simp [hz]))]
theorem insG_append_right {α : Type} {f : α → α → Bool} {x : α} : ∀ {l r : List α}, (∀ y ∈ r, f x y = true) → insG f x (l ++ r) = insG f x l ++ r
  | [], [], _ => rfl
  | [], y :: r, h => by
    show (if f x y = true then _ else _) = _
    rw [if_pos (h y (by simp))]
    rfl
  | y :: l, r, h => by
    show (if f x y = true then _ else y :: insG f x (l ++ r)) = (if f x y = true then _ else _) ++ r
    split
    · rfl
    · rw [insG_append_right h]; rfl
theorem insG_map {α β : Type} {f : α → α → Bool} {g : β → β → Bool} (u : α → β) (h : ∀ a b, g (u a) (u b) = f a b) (x : α) : ∀ l : List α, insG g (u x) (l.map u) = (insG f x l).map u
  | [] => rfl
  | y :: l => by
    show (if g (u x) (u y) = true then _ else _) = ((if f x y = true then _ else _) : List α).map u
    rw [h]
    split
    · rfl
    · rw [insG_map u h x l]; rfl
theorem ahead_same (i : Nat) (a b : MetaV) : aheadV ⟨(i : Int), a⟩ ⟨(i : Int), b⟩ = before i a b := by
  unfold aheadV before
  simp only [ne_eq, not_true_eq_false, if_false]
  by_cases h : i = 0
  · simp [h]
  · have : ¬ (i : Int) = 0 := by omega
    simp [h, this]
theorem ahead_low {i k : Nat} (h : k < i) (a b : MetaV) : aheadV ⟨(i : Int), a⟩ ⟨(k : Int), b⟩ = false := by
  unfold aheadV
  have h1 : (i : Int) ≠ k := by omega
  rw [if_pos h1]
  simp; omega
theorem ahead_high {i k : Nat} (h : i < k) (a b : MetaV) : aheadV ⟨(i : Int), a⟩ ⟨(k : Int), b⟩ = true := by
  unfold aheadV
  have h1 : (i : Int) ≠ k := by omega
  rw [if_pos h1]
  simp; omega
def setLv (f : Nat → List MetaV) (i : Nat) (l : List MetaV) : Nat → List MetaV := fun k => if k = i then l else f k
def flatF (f : Nat → List MetaV) : List PlaceV := atLevel 0 (f 0) ++ (atLevel 1 (f 1) ++ (atLevel 2 (f 2) ++ atLevel 3 (f 3)))
theorem flat_eq (S : VerV) : flat S = flatF S.lv := rfl
theorem withV_flat (f : Nat → List MetaV) {i : Nat} (hi : i < 4) (m : MetaV) : withV (flatF f) ⟨(i : Int), m⟩ = flatF (setLv f i (insG (before i) m (f i))) := by
  have low : ∀ k, k < i → ∀ y ∈ atLevel k (f k), aheadV ⟨(i : Int), m⟩ y = false := fun k hk y hy => by
    obtain ⟨a, _, rfl⟩ := List.mem_map.1 hy
    exact ahead_low hk m a
  have high : ∀ k, i < k → ∀ y ∈ atLevel k (f k), aheadV ⟨(i : Int), m⟩ y = true := fun k hk y hy => by
    obtain ⟨a, _, rfl⟩ := List.mem_map.1 hy
    exact ahead_high hk m a
  have same : insG aheadV ⟨(i : Int), m⟩ (atLevel i (f i)) = atLevel i (insG (before i) m (f i)) := insG_map (u := fun a => (⟨(i : Int), a⟩ : PlaceV)) (ahead_same i) m (f i)
  unfold withV flatF
  match i, hi with
  | 0, _ =>
    rw [insG_append_right (fun y hy => by
      simp only [List.mem_append] at hy
      rcases hy with hy | hy | hy
      · exact high 1 (by omega) y hy
      · exact high 2 (by omega) y hy
      · exact high 3 (by omega) y hy), same]
    rfl
  | 1, _ =>
    rw [insG_append_left (low 0 (by omega)), insG_append_right (fun y hy => by
      simp only [List.mem_append] at hy
      rcases hy with hy | hy
      · exact high 2 (by omega) y hy
      · exact high 3 (by omega) y hy), same]
    rfl
  | 2, _ =>
    rw [insG_append_left (low 0 (by omega)), insG_append_left (low 1 (by omega)), insG_append_right (high 3 (by omega)), same]
    rfl
  | 3, _ =>
    rw [insG_append_left (low 0 (by omega)), insG_append_left (low 1 (by omega)), insG_append_left (low 2 (by omega)), same]
    rfl
theorem withV_all : ∀ (add : List PlaceV) (f : Nat → List MetaV), (∀ p ∈ add, 0 ≤ p.level ∧ p.level < 4) → add.foldl withV (flatF f) = flatF fun i => addTo i add (f i)
  | [], f, _ => rfl
  | p :: add, f, h => by
    obtain ⟨l, m⟩ := p
    obtain ⟨h0, h4⟩ := h ⟨l, m⟩ (by simp)
    simp only at h0 h4
    obtain ⟨i, rfl⟩ := Int.eq_ofNat_of_zero_le h0
    rw [List.foldl_cons, withV_flat f (by omega) m, withV_all add _ fun p hp => h p (by simp [hp])]
    congr 1
    funext k
    unfold addTo
    rw [List.foldl_cons]
    congr 1
    unfold setLv
    by_cases hk : k = i
    · subst hk; simp
    · have : ¬ ((i : Int) = (k : Int)) := by omega
      simp [hk, this]
theorem keptP_append (d : List Int) (a b : List PlaceV) : keptP d (a ++ b) = keptP d a ++ keptP d b := List.filter_append ..
theorem keptP_level (d : List Int) (i : Nat) (l : List MetaV) : keptP d (atLevel i l) = atLevel i (kept d l) := by
  unfold keptP atLevel kept
  rw [List.filter_map]
  rfl
theorem keptP_flat (d : List Int) (f : Nat → List MetaV) : keptP d (flatF f) = flatF fun i => kept d (f i) := by
  unfold flatF
  rw [keptP_append, keptP_append, keptP_append, keptP_level, keptP_level, keptP_level, keptP_level]
/-- The document's list behind an edit. -/
theorem doc_next (S : VerV) (E : EditV) (h : ∀ p ∈ E.add, 0 ≤ p.level ∧ p.level < 4) : E.add.foldl withV (keptP E.drop (flat S)) = flat (nextV S E) := by
  rw [flat_eq, keptP_flat, withV_all _ _ h]
  rfl
/-- .. no two tables of a level from 1 on with a key in common: the document's way to ask. -/
def clash (a b : PlaceV) : Prop := a.level > 0 ∧ a.level = b.level ∧ sl b.m.hi a.m.lo = false ∧ sl a.m.hi b.m.lo = false
theorem apart_of {a b : PlaceV} (h0 : a.level > 0) (he : a.level = b.level) : ¬ clash a b ↔ Apart b.m a.m := by
  unfold clash Apart
  constructor
  · intro h
    cases h1 : sl b.m.hi a.m.lo with
    | true => exact .inl rfl
    | false =>
      cases h2 : sl a.m.hi b.m.lo with
      | true => exact .inr rfl
      | false => exact absurd ⟨h0, he, h1, h2⟩ h
  · rintro (h | h) ⟨_, _, h1, h2⟩
    · rw [h] at h1; cases h1
    · rw [h] at h2; cases h2
theorem level_pairs (i : Nat) (hi : 1 ≤ i) (l : List MetaV) : (atLevel i l).Pairwise (fun b a => ¬ clash a b) ↔ l.Pairwise Apart := by
  unfold atLevel
  rw [List.pairwise_map]
  constructor <;> intro h <;> refine h.imp fun {a b} hab => ?_
  · exact (apart_of (a := ⟨(i : Int), b⟩) (b := ⟨(i : Int), a⟩) (by simp; omega) rfl).1 hab
  · exact (apart_of (a := ⟨(i : Int), b⟩) (b := ⟨(i : Int), a⟩) (by simp; omega) rfl).2 hab
theorem level_zero (l : List MetaV) : (atLevel 0 l).Pairwise (fun b a => ¬ clash a b) := by
  unfold atLevel
  rw [List.pairwise_map]
  exact List.pairwise_of_forall fun a b h => by have := h.1; simp at this
theorem level_other {i k : Nat} (h : i ≠ k) {l m : List MetaV} : ∀ b ∈ atLevel i l, ∀ a ∈ atLevel k m, ¬ clash a b := fun b hb a ha hc => by
  obtain ⟨x, _, rfl⟩ := List.mem_map.1 hb
  obtain ⟨y, _, rfl⟩ := List.mem_map.1 ha
  have := hc.2.1
  simp at this; omega
theorem flat_pairs (f : Nat → List MetaV) : (flatF f).Pairwise (fun b a => ¬ clash a b) ↔ ∀ i, 1 ≤ i → i < 4 → (f i).Pairwise Apart := by
  unfold flatF
  rw [List.pairwise_append, List.pairwise_append, List.pairwise_append, level_pairs 1 (by omega), level_pairs 2 (by omega), level_pairs 3 (by omega)]
  constructor
  · rintro ⟨_, ⟨h1, ⟨h2, h3, _⟩, _⟩, _⟩ i hi1 hi4
    match i, hi1, hi4 with
    | 1, _, _ => exact h1
    | 2, _, _ => exact h2
    | 3, _, _ => exact h3
  · intro h
    refine ⟨level_zero _, ⟨h 1 (by omega) (by omega), ⟨h 2 (by omega) (by omega), h 3 (by omega) (by omega), level_other (by omega)⟩, ?_⟩, ?_⟩
    · intro b hb a ha
      rcases List.mem_append.1 ha with ha | ha
      · exact level_other (by omega) b hb a ha
      · exact level_other (by omega) b hb a ha
    · intro b hb a ha
      rcases List.mem_append.1 ha with ha | ha
      · exact level_other (by omega) b hb a ha
      · rcases List.mem_append.1 ha with ha | ha
        · exact level_other (by omega) b hb a ha
        · exact level_other (by omega) b hb a ha

/-! ### What is added to a level -/
def added (i : Nat) (add : List PlaceV) : List MetaV := (add.filter fun p => decide (p.level = (i : Int))).map (·.m)
theorem addTo_perm (i : Nat) : ∀ (add : List PlaceV) (l : List MetaV), (addTo i add l).Perm (l ++ added i add)
  | [], l => by simp [addTo, added]
  | p :: add, l => by
    unfold addTo
    rw [List.foldl_cons]
    by_cases h : p.level = (i : Int)
    · rw [if_pos h]
      refine (addTo_perm i add _).trans ?_
      have : added i (p :: add) = p.m :: added i add := by simp [added, h]
      rw [this]
      refine ((insG_perm p.m l).append_right _).trans ?_
      exact List.perm_middle.symm
    · rw [if_neg h]
      have : added i (p :: add) = added i add := by simp [added, h]
      rw [this]
      exact addTo_perm i add l
theorem addTo_sorted (i : Nat) : ∀ (add : List PlaceV) (l : List MetaV), Sorted (before i) l → Sorted (before i) (addTo i add l)
  | [], l, h => h
  | p :: add, l, h => by
    unfold addTo
    rw [List.foldl_cons]
    refine addTo_sorted i add _ ?_
    split
    · exact insG_sorted (before_trans i) (before_ntrans i) (before_irrefl i) _ _ h
    · exact h
theorem kept_sub (d : List Int) (l : List MetaV) : (kept d l).Sublist l := List.filter_sublist
theorem Good.sorted {S : VerV} (h : Good S) {i : Nat} (hi : i < 4) : Sorted (before i) (S.lv i) := by
  by_cases h0 : i = 0
  · subst h0
    exact h.zero.imp fun {a b} hab => by simp [before]; omega
  · refine (h.rest i (by omega) hi).imp_of_mem fun {a b} ha hb hab => ?_
    unfold before
    rw [if_neg h0]
    cases hc : sl b.lo a.lo with
    | false => rfl
    | true =>
      have h1 := (h.ends i hi a ha).1
      have := sl_trans hab hc
      rw [h1] at this; cases this
theorem next_perm (S : VerV) (E : EditV) (i : Nat) : ((nextV S E).lv i).Perm (kept E.drop (S.lv i) ++ added i E.add) := addTo_perm i E.add _
theorem next_sorted {S : VerV} (h : Good S) (E : EditV) {i : Nat} (hi : i < 4) : Sorted (before i) ((nextV S E).lv i) := addTo_sorted i E.add _ ((h.sorted hi).sublist (kept_sub _ _))

/-- A sorted list in which each table ends ahead of the next one's beginning. -/
def AdjOk (l : List MetaV) : Prop := ∀ i a b, l[i]? = some a → l[i + 1]? = some b → sl a.hi b.lo = true
theorem adj_of_apart {l : List MetaV} {i : Nat} (hi : i ≠ 0) (hs : Sorted (before i) l) (he : ∀ m ∈ l, sl m.hi m.lo = false) (hp : l.Pairwise Apart) : l.Pairwise fun a b => sl a.hi b.lo = true := by
  refine List.Pairwise.imp_of_mem (R := fun a b => before i b a = false ∧ Apart a b) (fun {a b} ha hb hab => ?_) (List.pairwise_and_iff.2 ⟨hs, hp⟩)
  obtain ⟨h1, h2⟩ := hab
  rcases h2 with h2 | h2
  · exact h2
  · exfalso
    unfold before at h1
    rw [if_neg hi] at h1
    have := sl_le_lt (he b hb) h2
    rw [h1] at this; cases this
theorem AdjOk.tail {a : MetaV} {l : List MetaV} (h : AdjOk (a :: l)) : AdjOk l := fun i x y hx hy => h (i + 1) x y (by simpa using hx) (by simpa using hy)
theorem AdjOk.pairs : ∀ {l : List MetaV}, (∀ m ∈ l, sl m.hi m.lo = false) → AdjOk l → l.Pairwise fun a b => sl a.hi b.lo = true
  | [], _, _ => List.Pairwise.nil
  | [a], _, _ => by simp
  | a :: b :: l, he, h => by
    have ih := AdjOk.pairs (fun m hm => he m (List.mem_cons_of_mem _ hm)) h.tail
    have hab : sl a.hi b.lo = true := h 0 a b rfl rfl
    refine List.pairwise_cons.2 ⟨fun c hc => ?_, ih⟩
    rcases List.mem_cons.1 hc with rfl | hc
    · exact hab
    · have := (List.pairwise_cons.1 ih).1 c hc
      exact sl_trans (sl_lt_le hab (he b (by simp))) this
theorem adj_of_pairs {l : List MetaV} (h : l.Pairwise fun a b => sl a.hi b.lo = true) : AdjOk l := fun i a b ha hb => by
  obtain ⟨h1, rfl⟩ := List.getElem?_eq_some_iff.1 ha
  obtain ⟨h2, rfl⟩ := List.getElem?_eq_some_iff.1 hb
  exact List.pairwise_iff_getElem.1 h i (i + 1) h1 h2 (by omega)

/-! ### The program's way: a level sorted, whichever way -/
theorem ends_pre {S : VerV} {E : EditV} (h : Good S) (ho : okV S E) {i : Nat} (hi : i < 4) : ∀ m ∈ kept E.drop (S.lv i) ++ added i E.add, sl m.hi m.lo = false ∧ 0 ≤ m.file ∧ m.file < E.next := fun m hm => by
  rcases List.mem_append.1 hm with hm | hm
  · obtain ⟨h1, h2, h3⟩ := h.ends i hi m ((kept_sub _ _).subset hm)
    have := ho.1.1
    exact ⟨h1, h2, by omega⟩
  · obtain ⟨p, hp, rfl⟩ := List.mem_map.1 hm
    have hp' : p ∈ E.add := (List.mem_filter.1 hp).1
    obtain ⟨_, _, g2, g3, _, g5⟩ := (ho.2.2.1.1 p hp').1
    exact ⟨g5, g2, g3⟩
theorem apart_perm {l m : List MetaV} (h : l.Perm m) : l.Pairwise Apart ↔ m.Pairwise Apart := h.pairwise_iff fun h => Apart.symm h
/-- A level from 1 on, sorted whichever way, is asked: is each table's end ahead of the next one's beginning? -/
theorem level_asked {i : Nat} (hi : i ≠ 0) {l m : List MetaV} (hp : l.Perm m) (hs : Sorted (before i) l) (he : ∀ x ∈ l, sl x.hi x.lo = false) : AdjOk l ↔ m.Pairwise Apart := by
  rw [← apart_perm hp]
  constructor
  · intro h
    exact (h.pairs he).imp fun {a b} h => .inl h
  · intro h
    exact adj_of_pairs (adj_of_apart hi hs he h)
theorem level_rest {i : Nat} (hi : i ≠ 0) {l m : List MetaV} (hp : l.Perm m) (hs : Sorted (before i) l) (hsm : Sorted (before i) m) (he : ∀ x ∈ l, sl x.hi x.lo = false) (ha : m.Pairwise Apart) : l = m := by
  have hem : ∀ x ∈ m, sl x.hi x.lo = false := fun x hx => he x (hp.mem_iff.2 hx)
  have strict : ∀ {l : List MetaV}, (∀ x ∈ l, sl x.hi x.lo = false) → (l.Pairwise fun a b => sl a.hi b.lo = true) → l.Pairwise fun a b => sl a.lo b.lo = true := fun he h => h.imp_of_mem fun {a b} ha hb hab => sl_le_lt (he a ha) hab
  exact strict_unique (f := fun a b : MetaV => sl a.lo b.lo) (fun a => sl_irrefl _) (fun a b c => sl_trans) hp (strict he (adj_of_apart hi hs he ((apart_perm hp).2 ha))) (strict hem (adj_of_apart hi hsm hem ha))
theorem level_first {l m : List MetaV} (hp : l.Perm m) (hs : Sorted (before 0) l) (hsm : Sorted (before 0) m) (hn : (m.map (·.file)).Nodup) : l = m := by
  have strict : ∀ {l : List MetaV}, (l.map (·.file)).Nodup → Sorted (before 0) l → l.Pairwise fun a b => before 0 a b = true := fun hn hs => by
    have h1 := List.pairwise_map.1 hn
    refine (List.pairwise_and_iff.2 ⟨hs, h1⟩).imp fun {a b} h => ?_
    have := h.1
    have h2 := h.2
    simp [before] at this ⊢
    omega
  exact strict_unique (before_irrefl 0) (before_trans 0) hp (strict ((hp.map _).nodup_iff.2 hn) hs) (strict hn hsm)

/-! ### Good versions stay good -/
theorem flatF_perm {f g : Nat → List MetaV} (h : ∀ i, i < 4 → (f i).Perm (g i)) : (flatF f).Perm (flatF g) :=
  ((h 0 (by omega)).map _).append (((h 1 (by omega)).map _).append (((h 2 (by omega)).map _).append ((h 3 (by omega)).map _)))
theorem mem_flatF {f : Nat → List MetaV} {p : PlaceV} : p ∈ flatF f ↔ ∃ i, i < 4 ∧ ∃ m ∈ f i, p = ⟨(i : Int), m⟩ := by
  unfold flatF atLevel
  simp only [List.mem_append, List.mem_map]
  constructor
  · rintro (⟨m, hm, rfl⟩ | ⟨m, hm, rfl⟩ | ⟨m, hm, rfl⟩ | ⟨m, hm, rfl⟩)
    · exact ⟨0, by omega, m, hm, rfl⟩
    · exact ⟨1, by omega, m, hm, rfl⟩
    · exact ⟨2, by omega, m, hm, rfl⟩
    · exact ⟨3, by omega, m, hm, rfl⟩
  · rintro ⟨i, hi, m, hm, rfl⟩
    match i, hi with
    | 0, _ => exact .inl ⟨m, hm, rfl⟩
    | 1, _ => exact .inr (.inl ⟨m, hm, rfl⟩)
    | 2, _ => exact .inr (.inr (.inl ⟨m, hm, rfl⟩))
    | 3, _ => exact .inr (.inr (.inr ⟨m, hm, rfl⟩))
theorem flat_parted (d : List Int) (f g : Nat → List MetaV) : (flatF fun i => f i ++ g i).Perm (flatF f ++ flatF g) := by
  unfold flatF atLevel
  simp only [List.map_append]
  generalize List.map _ (f 0) = a0; generalize List.map _ (g 0) = b0
  generalize List.map _ (f 1) = a1; generalize List.map _ (g 1) = b1
  generalize List.map _ (f 2) = a2; generalize List.map _ (g 2) = b2
  generalize List.map _ (f 3) = a3; generalize List.map _ (g 3) = b3
  have swap : ∀ (a b c d : List PlaceV), (a ++ b ++ (c ++ d)).Perm (a ++ c ++ (b ++ d)) := fun a b c d => by
    rw [List.append_assoc, List.append_assoc]
    refine List.Perm.append_left a ?_
    rw [← List.append_assoc, ← List.append_assoc]
    exact List.perm_append_comm.append_right d
  refine ((((swap a2 b2 a3 b3)).append_left (a1 ++ b1)).append_left (a0 ++ b0)).trans ?_
  refine ((swap a1 b1 (a2 ++ a3) (b2 ++ b3)).append_left (a0 ++ b0)).trans ?_
  exact swap a0 b0 (a1 ++ (a2 ++ a3)) (b1 ++ (b2 ++ b3))
theorem filter_levels : ∀ (add : List PlaceV), (∀ p ∈ add, 0 ≤ p.level ∧ p.level < 4) → (filesOf (flatF fun i => added i add)).Perm (filesOf add)
  | [], _ => by simp [filesOf, flatF, added, atLevel]
  | p :: add, h => by
    obtain ⟨l, m⟩ := p
    obtain ⟨h0, h4⟩ := h ⟨l, m⟩ (by simp)
    simp only at h0 h4
    obtain ⟨i, rfl⟩ := Int.eq_ofNat_of_zero_le h0
    have ih := filter_levels add fun p hp => h p (by simp [hp])
    have e : ∀ k, added k (⟨(i : Int), m⟩ :: add) = (if k = i then [m] else []) ++ added k add := fun k => by
      unfold added
      by_cases hk : k = i
      · subst hk; simp
      · have : ¬ ((i : Int) = (k : Int)) := by omega
        simp [hk, this]
    have hf : (flatF fun k => added k (⟨(i : Int), m⟩ :: add)) = flatF fun k => (if k = i then [m] else []) ++ added k add := by
      congr 1; funext k; exact e k
    rw [hf]
    have hp := (flat_parted [] (fun k => if k = i then [m] else []) (fun k => added k add)).map (fun p : PlaceV => p.m.file)
    refine hp.trans ?_
    rw [List.map_append]
    have h1 : (flatF fun k => if k = i then [m] else []).map (fun p : PlaceV => p.m.file) = [m.file] := by
      unfold flatF atLevel
      match i, h4 with
      | 0, _ => rfl
      | 1, _ => rfl
      | 2, _ => rfl
      | 3, _ => rfl
    rw [h1]
    show (m.file :: _).Perm (m.file :: _)
    exact ih.cons _
theorem next_files {S : VerV} {E : EditV} (hl : ∀ p ∈ E.add, 0 ≤ p.level ∧ p.level < 4) : (filesOf (flat (nextV S E))).Perm (filesOf (keptP E.drop (flat S)) ++ filesOf E.add) := by
  rw [flat_eq, flat_eq, keptP_flat]
  refine ((flatF_perm fun i hi => next_perm S E i).map _).trans ?_
  refine ((flat_parted [] _ _).map _).trans ?_
  rw [List.map_append]
  exact (filter_levels E.add hl).append_left _
theorem ok_levels {S : VerV} {E : EditV} (ho : okV S E) : ∀ p ∈ E.add, 0 ≤ p.level ∧ p.level < 4 := fun p hp => ⟨(ho.2.2.1.1 p hp).1.1, (ho.2.2.1.1 p hp).1.2.1⟩
theorem next_nodup {S : VerV} {E : EditV} (h : Good S) (ho : okV S E) : (filesOf (flat (nextV S E))).Nodup := by
  rw [(next_files (ok_levels ho)).nodup_iff, List.nodup_append]
  have hsub : (filesOf (keptP E.drop (flat S))).Sublist (filesOf (flat S)) := List.filter_sublist.map _
  refine ⟨h.files.sublist hsub, ho.2.2.1.2, fun a ha b hb e => ?_⟩
  subst e
  obtain ⟨p, hp, rfl⟩ := List.mem_map.1 hb
  exact (ho.2.2.1.1 p hp).2 (hsub.subset ha)
theorem level_nodup {S : VerV} (h : (filesOf (flat S)).Nodup) : ((S.lv 0).map (·.file)).Nodup := by
  have : ((S.lv 0).map (·.file)).Sublist (filesOf (flat S)) := by
    unfold filesOf flat
    rw [List.map_append]
    have : (List.map (fun p : PlaceV => p.m.file) (atLevel 0 (S.lv 0))) = (S.lv 0).map (·.file) := by simp [atLevel]
    rw [this]
    exact List.sublist_append_left _ _
  exact h.sublist this
theorem Good.next {S : VerV} {E : EditV} (h : Good S) (ho : okV S E) : Good (nextV S E) := by
  have hn := next_nodup h ho
  have he : ∀ i, i < 4 → ∀ m ∈ (nextV S E).lv i, sl m.hi m.lo = false ∧ 0 ≤ m.file ∧ m.file < E.next := fun i hi m hm => ends_pre h ho hi m ((next_perm S E i).mem_iff.1 hm)
  refine ⟨hn, ?_, fun i h1 h4 => ?_, he, ?_⟩
  · have h1 := List.pairwise_map.1 (level_nodup hn)
    refine (List.pairwise_and_iff.2 ⟨next_sorted h E (i := 0) (by omega), h1⟩).imp fun {a b} h => ?_
    have := h.1
    have h2 := h.2
    simp [before] at this
    omega
  · exact adj_of_apart (by omega) (next_sorted h E h4) (fun m hm => (he i h4 m hm).1) (ho.2.2.2 i h1 h4)
  · have := ho.1.2
    show E.log < E.next ∨ E.log = 0 ∧ E.next = 0
    omega
end Go.Proofs.YtahahginmgidjaaGreatDoor
namespace Go.Proofs.YtahahginmgidjaaGreatDoor
open Go.RowKit
set_option linter.unusedVariables false
set_option linter.unusedSimpArgs false

def mrow (m : MetaV) : List Value := [.int .i64 m.file, .int .i64 m.size, .string m.lo, .string m.hi]
def prow (p : PlaceV) : List Value := [.int .i64 p.level, .int .i64 p.m.file, .int .i64 p.m.size, .string p.m.lo, .string p.m.hi]
/-- The program's tables; its places; the document's tables; numbers. -/
def metaC : Codec MetaV := ⟨mrow, 4, 130, 26, .agg #[.int .i64 0, .int .i64 0, .string ⟨#[]⟩, .string ⟨#[]⟩], 48⟩
def placeC : Codec PlaceV := ⟨prow, 5, 132, 55, .agg #[.int .i64 0, .int .i64 0, .int .i64 0, .string ⟨#[]⟩, .string ⟨#[]⟩], 56⟩
def docC : Codec PlaceV := ⟨prow, 5, 120, 30, .agg #[.int .i64 0, .int .i64 0, .int .i64 0, .string ⟨#[]⟩, .string ⟨#[]⟩], 56⟩
def i64C : Codec Int := ⟨fun x => [.int .i64 x], 1, 2, 52, .int .i64 0, 8⟩
theorem metaOk : metaC.Ok := ⟨fun _ => rfl, by decide, fun x v hv => by simp [metaC, mrow] at hv; rcases hv with rfl | rfl | rfl | rfl <;> rfl, Tryz.underlying26, by kernel_rfl, rfl, by decide⟩
theorem placeOk : placeC.Ok := ⟨fun _ => rfl, by decide, fun x v hv => by simp [placeC, prow] at hv; rcases hv with rfl | rfl | rfl | rfl | rfl <;> rfl, Tryz.underlying55, by kernel_rfl, rfl, by decide⟩
theorem docOk : docC.Ok := ⟨fun _ => rfl, by decide, fun x v hv => by simp [docC, prow] at hv; rcases hv with rfl | rfl | rfl | rfl | rfl <;> rfl, Tryz.underlying30, by kernel_rfl, rfl, by decide⟩
theorem i64Ok : i64C.Ok := ⟨fun _ => rfl, by decide, fun x v hv => by simp [i64C] at hv; subst hv; rfl, Tryz.underlying52, by kernel_rfl, rfl, by decide⟩

section
variable {w : World} {v : Value}
theorem meta_form {l : List MetaV} (h : Lst metaC w v l) : ∃ a cap, v = .slice a l.length cap ∧ l.length ≤ cap ∧ l.length ≤ 9223372036854775807 ∧ ∀ A x B, l = A ++ x :: B → ∃ b, a = some ⟨b, 0, none⟩ ∧ b < w.heap.size ∧ v.ownBlock = some b ∧
    w.cell? ⟨b, A.length * 4, none⟩ = some (.int .i64 x.file) ∧ w.cell? ⟨b, A.length * 4 + 1, none⟩ = some (.int .i64 x.size) ∧ w.cell? ⟨b, A.length * 4 + 2, none⟩ = some (.string x.lo) ∧ w.cell? ⟨b, A.length * 4 + 3, none⟩ = some (.string x.hi) := by
  obtain ⟨a, cap, e, h1, h2, h3⟩ := h.form metaOk
  refine ⟨a, cap, e, h1, h2, fun A x B hl => ?_⟩
  obtain ⟨b, eb, hb, ho, hc⟩ := h3 A x B hl
  exact ⟨b, eb, hb, ho, hc 0 _ rfl, hc 1 _ rfl, hc 2 _ rfl, hc 3 _ rfl⟩
theorem place_form {l : List PlaceV} (h : Lst placeC w v l) : ∃ a cap, v = .slice a l.length cap ∧ l.length ≤ cap ∧ l.length ≤ 9223372036854775807 ∧ ∀ A x B, l = A ++ x :: B → ∃ b, a = some ⟨b, 0, none⟩ ∧ b < w.heap.size ∧ v.ownBlock = some b ∧
    w.cell? ⟨b, A.length * 5, none⟩ = some (.int .i64 x.level) ∧ w.cell? ⟨b, A.length * 5 + 1, none⟩ = some (.int .i64 x.m.file) ∧ w.cell? ⟨b, A.length * 5 + 2, none⟩ = some (.int .i64 x.m.size) ∧ w.cell? ⟨b, A.length * 5 + 3, none⟩ = some (.string x.m.lo) ∧ w.cell? ⟨b, A.length * 5 + 4, none⟩ = some (.string x.m.hi) := by
  obtain ⟨a, cap, e, h1, h2, h3⟩ := h.form placeOk
  refine ⟨a, cap, e, h1, h2, fun A x B hl => ?_⟩
  obtain ⟨b, eb, hb, ho, hc⟩ := h3 A x B hl
  exact ⟨b, eb, hb, ho, hc 0 _ rfl, hc 1 _ rfl, hc 2 _ rfl, hc 3 _ rfl, hc 4 _ rfl⟩
theorem doc_form {l : List PlaceV} (h : Lst docC w v l) : ∃ a cap, v = .slice a l.length cap ∧ l.length ≤ cap ∧ l.length ≤ 9223372036854775807 ∧ ∀ A x B, l = A ++ x :: B → ∃ b, a = some ⟨b, 0, none⟩ ∧ b < w.heap.size ∧ v.ownBlock = some b ∧
    w.cell? ⟨b, A.length * 5, none⟩ = some (.int .i64 x.level) ∧ w.cell? ⟨b, A.length * 5 + 1, none⟩ = some (.int .i64 x.m.file) ∧ w.cell? ⟨b, A.length * 5 + 2, none⟩ = some (.int .i64 x.m.size) ∧ w.cell? ⟨b, A.length * 5 + 3, none⟩ = some (.string x.m.lo) ∧ w.cell? ⟨b, A.length * 5 + 4, none⟩ = some (.string x.m.hi) := by
  obtain ⟨a, cap, e, h1, h2, h3⟩ := h.form docOk
  refine ⟨a, cap, e, h1, h2, fun A x B hl => ?_⟩
  obtain ⟨b, eb, hb, ho, hc⟩ := h3 A x B hl
  exact ⟨b, eb, hb, ho, hc 0 _ rfl, hc 1 _ rfl, hc 2 _ rfl, hc 3 _ rfl, hc 4 _ rfl⟩
theorem i64_form {l : List Int} (h : Lst i64C w v l) : ∃ a cap, v = .slice a l.length cap ∧ l.length ≤ cap ∧ l.length ≤ 9223372036854775807 ∧ ∀ A x B, l = A ++ x :: B → ∃ b, a = some ⟨b, 0, none⟩ ∧ b < w.heap.size ∧ v.ownBlock = some b ∧
    w.cell? ⟨b, A.length, none⟩ = some (.int .i64 x) := by
  obtain ⟨a, cap, e, h1, h2, h3⟩ := h.form i64Ok
  refine ⟨a, cap, e, h1, h2, fun A x B hl => ?_⟩
  obtain ⟨b, eb, hb, ho, hc⟩ := h3 A x B hl
  have := hc 0 _ rfl
  exact ⟨b, eb, hb, ho, by simpa [i64C] using this⟩
end

/-! ### The small calls -/
instance (next : Int) (p : PlaceV) : Decidable (goodP next p) := by unfold goodP; exact inferInstance
def goodB (next : Int) (p : PlaceV) : Bool := decide (goodP next p)
set_option maxRecDepth 100000 in
set_option maxHeartbeats 1000000 in
theorem ver_good (p : PlaceV) (next : Int) (w : World) :
    Calls Tryz.prog 88 #[.agg #[.int .i64 p.level, .int .i64 p.m.file, .int .i64 p.m.size, .string p.m.lo, .string p.m.hi], .int .i64 next] w fun e w' => e = .returned (.bool (goodB next p)) ∧ Chg (fun _ => False) w w' := by
  obtain ⟨l, f, s, lo, hi⟩ := p
  simp only
  have hs := sl_leq lo hi
  unfold sl at hs
  by_cases h0 : 0 ≤ l
  · by_cases h1 : l < 4
    · by_cases h2 : 0 ≤ f
      · by_cases h3 : f < next
        · by_cases h4 : 0 ≤ s
          · cases h5 : Op.bytesLess hi.toList lo.toList with
            | false =>
              rw [h5] at hs
              have hr : goodB next ⟨l, f, s, lo, hi⟩ = true := decide_eq_true ⟨h0, h1, h2, h3, h4, h5⟩
              rw [hr]
              clear hr h5
              go_enter Tryz.func88, Tryz.ntmps88
              go_wp2
              go_ret
              exact ⟨rfl, by ((repeat (first | exact Chg.refl _ _ | assumption | refine Chg.drewN ?_ _ | refine Chg.drew ?_ | refine Chg.alloc ?_ _ | refine Chg.setCell ?_ (by first | (simp; done) | (simp; omega) | (intro h; simp at h; omega)) _)))⟩
            | true =>
              rw [h5] at hs
              have hr : goodB next ⟨l, f, s, lo, hi⟩ = false := decide_eq_false fun h => by have := h.2.2.2.2.2; unfold sl at this; simp only at this; rw [h5] at this; cases this
              rw [hr]
              clear hr h5
              go_enter Tryz.func88, Tryz.ntmps88
              go_wp2
              go_ret
              exact ⟨rfl, by ((repeat (first | exact Chg.refl _ _ | assumption | refine Chg.drewN ?_ _ | refine Chg.drew ?_ | refine Chg.alloc ?_ _ | refine Chg.setCell ?_ (by first | (simp; done) | (simp; omega) | (intro h; simp at h; omega)) _)))⟩
          · have hr : goodB next ⟨l, f, s, lo, hi⟩ = false := decide_eq_false fun h => h4 h.2.2.2.2.1
            rw [hr]
            clear hr hs
            have h4' := h4
            go_enter Tryz.func88, Tryz.ntmps88
            go_wp2
            go_ret
            exact ⟨rfl, by ((repeat (first | exact Chg.refl _ _ | assumption | refine Chg.drewN ?_ _ | refine Chg.drew ?_ | refine Chg.alloc ?_ _ | refine Chg.setCell ?_ (by first | (simp; done) | (simp; omega) | (intro h; simp at h; omega)) _)))⟩
        · have hr : goodB next ⟨l, f, s, lo, hi⟩ = false := decide_eq_false fun h => h3 h.2.2.2.1
          rw [hr]
          clear hr hs
          go_enter Tryz.func88, Tryz.ntmps88
          go_wp2
          go_ret
          exact ⟨rfl, by ((repeat (first | exact Chg.refl _ _ | assumption | refine Chg.drewN ?_ _ | refine Chg.drew ?_ | refine Chg.alloc ?_ _ | refine Chg.setCell ?_ (by first | (simp; done) | (simp; omega) | (intro h; simp at h; omega)) _)))⟩
      · have hr : goodB next ⟨l, f, s, lo, hi⟩ = false := decide_eq_false fun h => h2 h.2.2.1
        rw [hr]
        clear hr hs
        go_enter Tryz.func88, Tryz.ntmps88
        go_wp2
        go_ret
        exact ⟨rfl, by ((repeat (first | exact Chg.refl _ _ | assumption | refine Chg.drewN ?_ _ | refine Chg.drew ?_ | refine Chg.alloc ?_ _ | refine Chg.setCell ?_ (by first | (simp; done) | (simp; omega) | (intro h; simp at h; omega)) _)))⟩
    · have hr : goodB next ⟨l, f, s, lo, hi⟩ = false := decide_eq_false fun h => h1 h.2.1
      rw [hr]
      clear hr hs
      go_enter Tryz.func88, Tryz.ntmps88
      go_wp2
      go_ret
      exact ⟨rfl, by ((repeat (first | exact Chg.refl _ _ | assumption | refine Chg.drewN ?_ _ | refine Chg.drew ?_ | refine Chg.alloc ?_ _ | refine Chg.setCell ?_ (by first | (simp; done) | (simp; omega) | (intro h; simp at h; omega)) _)))⟩
  · have hr : goodB next ⟨l, f, s, lo, hi⟩ = false := decide_eq_false fun h => h0 h.1
    rw [hr]
    clear hr hs
    go_enter Tryz.func88, Tryz.ntmps88
    go_wp2
    go_ret
    exact ⟨rfl, by ((repeat (first | exact Chg.refl _ _ | assumption | refine Chg.drewN ?_ _ | refine Chg.drew ?_ | refine Chg.alloc ?_ _ | refine Chg.setCell ?_ (by first | (simp; done) | (simp; omega) | (intro h; simp at h; omega)) _)))⟩
end Go.Proofs.YtahahginmgidjaaGreatDoor
