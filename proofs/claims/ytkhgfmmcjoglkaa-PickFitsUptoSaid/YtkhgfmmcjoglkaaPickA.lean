/-
  Tables that a slice reads as; what the small calls of pick make of them: hull, lo, hi, files.
-/
import Derived.Test.YtkhgfmmcjoglkaaVerKa
import Derived.Test.YtkhgfmmcjoglkaaVerR
import Derived.Test.YtkhgfmmcjoglkaaPickM
import Derived.Deep.RegionHeld3
import Derived.Deep.AppendSrc
import Derived.Deep.Upon
import Derived.WalkSpells
namespace Go.Proofs.Ytkhgfmmcjoglkaa
open Go.RowKit
set_option linter.unusedVariables false
set_option linter.unusedSimpArgs false

/-- A slice, wherever it begins, reads as these tables. -/
def RM (w : World) (v : Value) (l : List MetaV) : Prop :=
  ∃ a cap, v = .slice a l.length cap ∧ l.length ≤ cap ∧ cap ≤ 9223372036854775807 ∧ ∀ A x B, l = A ++ x :: B → ∃ b off, a = some ⟨b, off, none⟩ ∧ b < w.heap.size ∧
    w.cell? ⟨b, off + A.length * 4, none⟩ = some (.int .i64 x.file) ∧ w.cell? ⟨b, off + A.length * 4 + 1, none⟩ = some (.int .i64 x.size) ∧ w.cell? ⟨b, off + A.length * 4 + 2, none⟩ = some (.string x.lo) ∧ w.cell? ⟨b, off + A.length * 4 + 3, none⟩ = some (.string x.hi)
theorem RM.same {w w' : World} {v : Value} {l : List MetaV} (h : RM w v l) (hc : Chg (fun _ => False) w w') : RM w' v l := by
  obtain ⟨a, cap, e, h1, h2, h3⟩ := h
  refine ⟨a, cap, e, h1, h2, fun A x B hl => ?_⟩
  obtain ⟨b, off, e', hb, z0, z1, z2, z3⟩ := h3 A x B hl
  exact ⟨b, off, e', Nat.lt_of_lt_of_le hb hc.size, (hc.cell (p := ⟨b, _, none⟩) hb (by simp)).trans z0, (hc.cell (p := ⟨b, _, none⟩) hb (by simp)).trans z1, (hc.cell (p := ⟨b, _, none⟩) hb (by simp)).trans z2, (hc.cell (p := ⟨b, _, none⟩) hb (by simp)).trans z3⟩
theorem run_min_str (t : TypeId) (ts : Array TypeId) (a b : ByteArray) (w : World) : (Builtin.min_ ts t #[.string a, .string b]).run Try.prog w = .ok (.string (smin a b)) w := by
  have h := sl_leq a b
  unfold smin
  unfold sl at *
  cases hb : Op.bytesLess b.toList a.toList with
  | true =>
    rw [hb] at h
    simp only [Bool.not_true] at h
    simp [Builtin.min_, Builtin.min2, Op.stringOp, h, asBool]
  | false =>
    rw [hb] at h
    simp only [Bool.not_false] at h
    simp [Builtin.min_, Builtin.min2, Op.stringOp, h, asBool]
theorem run_max_str (t : TypeId) (ts : Array TypeId) (a b : ByteArray) (w : World) : (Builtin.max_ ts t #[.string a, .string b]).run Try.prog w = .ok (.string (smax a b)) w := by
  unfold smax sl
  cases hb : Op.bytesLess a.toList b.toList with
  | true => simp [Builtin.max_, Builtin.max2, Op.stringOp, hb, asBool]
  | false => simp [Builtin.max_, Builtin.max2, Op.stringOp, hb, asBool]
theorem RM.src {w : World} {v : Value} {l : List MetaV} (h : RM w v l) : Src Try.prog 4 26 v l.length (l.flatMap metaC.g) w := by
  obtain ⟨a, cap, rfl, h1, h2, h3⟩ := h
  have hl : (l.flatMap metaC.g).length = l.length * 4 := flat_len metaOk.len l
  have h1' : ∀ u ∈ l.flatMap metaC.g, u.oneCell' = true := fun u hu => by
    obtain ⟨x, _, hx⟩ := List.mem_flatMap.1 hu
    exact metaOk.one x u hx
  cases a with
  | none =>
    cases l with
    | nil => exact Src.ofNil w Try.underlying26 cap
    | cons x r => obtain ⟨b, off, e, _⟩ := h3 [] x r rfl; cases e
  | some a =>
    refine Src.ofSlice w Try.underlying26 a l.length cap _ hl (fun j u hu => ?_) h1'
    have hj : j < l.length * 4 := by
      have := (List.getElem?_eq_some_iff.1 hu).1
      omega
    have hjl : j / 4 < l.length := by omega
    have hl' : l = l.take (j / 4) ++ l[j / 4] :: l.drop (j / 4 + 1) := by rw [← List.drop_eq_getElem_cons, List.take_append_drop]
    obtain ⟨b, off, e, hb, z0, z1, z2, z3⟩ := h3 _ _ _ hl'
    injection e with e
    subst e
    have hlen : (l.take (j / 4)).length = j / 4 := by rw [List.length_take]; omega
    rw [hlen] at z0 z1 z2 z3
    have hfl : ∀ k y, (metaC.g l[j / 4])[k]? = some y → (l.flatMap metaC.g)[j / 4 * 4 + k]? = some y := fun k y hy => by
      have := flat_at metaOk.len (l.take (j / 4)) l[j / 4] (l.drop (j / 4 + 1)) k y hy
      rw [← hl', hlen] at this
      exact this
    rw [Addr.add_lit]
    have hr : j % 4 < 4 := Nat.mod_lt _ (by decide)
    have hjj : j = j / 4 * 4 + j % 4 := by omega
    rw [hjj] at hu ⊢
    generalize j / 4 = q at *
    generalize j % 4 = k at *
    match k, hr with
    | 0, _ => rw [hfl 0 _ rfl] at hu; cases hu; simpa using z0
    | 1, _ => rw [hfl 1 _ rfl] at hu; cases hu; simpa [Nat.add_assoc] using z1
    | 2, _ => rw [hfl 2 _ rfl] at hu; cases hu; simpa [Nat.add_assoc] using z2
    | 3, _ => rw [hfl 3 _ rfl] at hu; cases hu; simpa [Nat.add_assoc] using z3

def HullPost (w : World) (x : MetaV) (l : List MetaV) (e : Ending) (w' : World) : Prop := e = .returned (.tuple #[.string (loF x.lo l), .string (hiF x.hi l)]) ∧ Chg (fun _ => False) w w'
theorem loF_snoc (d : ByteArray) (A : List MetaV) (m : MetaV) : loF d (A ++ [m]) = smin (loF d A) m.lo := by simp [loF]
theorem hiF_snoc (d : ByteArray) (A : List MetaV) (m : MetaV) : hiF d (A ++ [m]) = smax (hiF d A) m.hi := by simp [hiF]
set_option maxRecDepth 100000 in
set_option maxHeartbeats 2000000 in
theorem pick_hull (x : MetaV) (r l : List MetaV) (hx : l = x :: r) (v : Value) (w : World) (h : RM w v l) (hl : l.length ≤ 900000000) : Calls Try.prog 27 #[v] w (HullPost w x l) := by
  obtain ⟨a, cap, rfl, h1, h2, h3⟩ := h
  obtain ⟨b, off, rfl, hb, x0, x1, x2, x3⟩ := h3 [] x r hx
  simp only [List.length_nil, Nat.zero_mul, Nat.add_zero] at x0 x1 x2 x3
  have hpos : (0 : Int) < (l.length : Int) := by rw [hx]; simp
  have hpos' : 0 < l.length := by rw [hx]; simp
  have hm1 := fun t ts a b w => run_min_str t ts a b w
  have hm2 := fun t ts a b w => run_max_str t ts a b w
  have HR := Lib.hid h3
  have HM1 := Lib.hid hm1
  have HM2 := Lib.hid hm2
  clear h3 hx hm1 hm2
  go_enter Try.func27, Try.ntmps27
  go_wp2_with fail
  go_quiet (fail)
  go_wp2_with fail
  go_loopw [2, 3, 16] (fun lo hi i wr => ∃ A R, l = A ++ R ∧ i = .int .i64 A.length ∧ lo = .string (loF x.lo A) ∧ hi = .string (hiF x.hi A) ∧ Chg (fun _ => False) w wr) (fun _ _ i _ => l.length - (intOf i).toNat)
  case atStart => exact ⟨[], l, rfl, rfl, rfl, rfl, by ((repeat (first | exact Chg.refl _ _ | assumption | refine Chg.drewN ?_ _ | refine Chg.drew ?_ | refine Chg.alloc ?_ _ | refine Chg.setCell ?_ (by first | (simp; done) | (simp; omega) | (intro h; simp at h; omega)) _)))⟩
  case round =>
    obtain ⟨A, R, hL, rfl, rfl, rfl, hc⟩ := hrel
    have hAl : A.length ≤ l.length := by rw [hL]; simp
    obtain ⟨s1, hs1⟩ : ∃ s, loF x.lo A = s := ⟨_, rfl⟩
    obtain ⟨s2, hs2⟩ : ∃ s, hiF x.hi A = s := ⟨_, rfl⟩
    rw [hs1, hs2]
    have HC := Lib.hid hc
    cases R with
    | nil =>
      have hge : ¬ ((A.length : Int) < (l.length : Int)) := by rw [hL]; simp
      have hA : l = A := by rw [hL]; simp
      have HS1 := Lib.hid (show loF x.lo l = s1 by rw [hA]; exact hs1)
      have HS2 := Lib.hid (show hiF x.hi l = s2 by rw [hA]; exact hs2)
      clear hL hA hc hs1 hs2
      go_wp2_with fail
      go_ret2
      exact ⟨by rw [HS1.out, HS2.out]; rfl, HC.out⟩
    | cons y B =>
      obtain ⟨b', off', e', hb', z0, z1, z2, z3⟩ := HR.out A y B hL
      cases e'
      have z0 := (hc.cell (p := ⟨b, _, none⟩) hb' (by simp)).trans z0
      have z1 := (hc.cell (p := ⟨b, _, none⟩) hb' (by simp)).trans z1
      have z2 := (hc.cell (p := ⟨b, _, none⟩) hb' (by simp)).trans z2
      have z3 := (hc.cell (p := ⟨b, _, none⟩) hb' (by simp)).trans z3
      have hlt : (A.length : Int) < (l.length : Int) := by rw [hL]; simp; omega
      have hge : (0 : Int) ≤ (A.length : Int) := by omega
      have hL2 : l = (A ++ [y]) ++ B := by rw [hL]; simp
      obtain ⟨w5, hw5⟩ : ∃ w5, w5 = wr.alloc (.cells #[.int .i64 y.file, .int .i64 y.size, .string y.lo, .string y.hi] 44) := ⟨_, rfl⟩
      have hc5 : Chg (fun _ => False) wr w5 := by rw [hw5]; ((repeat (first | exact Chg.refl _ _ | assumption | refine Chg.drewN ?_ _ | refine Chg.drew ?_ | refine Chg.alloc ?_ _ | refine Chg.setCell ?_ (by first | (simp; done) | (simp; omega) | (intro h; simp at h; omega)) _)))
      have bq : Blk w5 wr.heap.size 44 #[.int .i64 y.file, .int .i64 y.size, .string y.lo, .string y.hi] := by rw [hw5]; exact Blk.new _ _ _
      have i2 := bq.cell 2
      have i3 := bq.cell 3
      simp at i2 i3
      have hm1 := HM1.out
      have hm2 := HM2.out
      have HW5 := Lib.hid hw5
      have HC5 := Lib.hid (hc.then hc5)
      have HL2 := Lib.hid hL2
      have HS1 := Lib.hid (show loF x.lo (A ++ [y]) = smin s1 y.lo by rw [loF_snoc, hs1])
      have HS2 := Lib.hid (show hiF x.hi (A ++ [y]) = smax s2 y.hi by rw [hiF_snoc, hs2])
      clear hL hL2 hc hc5 hw5 bq hs1 hs2
      go_upto_region 5 with fail
      rw [← HW5.out]
      go_quiet (fail)
      go_wp2_with fail
      refine ⟨⟨A ++ [y], B, HL2.out, by simp, by rw [HS1.out], by rw [HS2.out], HC5.out.drewN _⟩, by simp [intOf]; omega⟩
theorem RM.of_lst {w : World} {v : Value} {l : List MetaV} (h : Lst metaC w v l) : RM w v l := by
  have hcap : ∀ a n c, v = .slice a n c → c ≤ 9223372036854775807 := fun a n c e => by
    rcases h.2 with ⟨e', _⟩ | ⟨g, cap, cur, e', _, _, hm, _⟩
    · rw [e] at e'; cases e'; omega
    · rw [e] at e'; cases e'
      unfold maxLen at hm
      omega
  obtain ⟨a, cap, rfl, h1, h2, h3⟩ := meta_form h
  refine ⟨a, cap, rfl, h1, hcap _ _ _ rfl, fun A x B hl => ?_⟩
  obtain ⟨b, e, hb, _, z0, z1, z2, z3⟩ := h3 A x B hl
  exact ⟨b, 0, e, hb, by rw [Nat.zero_add]; exact z0, by rw [Nat.zero_add]; exact z1, by rw [Nat.zero_add]; exact z2, by rw [Nat.zero_add]; exact z3⟩
set_option maxRecDepth 100000 in
theorem pick_lo (x : MetaV) (r l : List MetaV) (hx : l = x :: r) (v : Value) (w : World) (h : RM w v l) (hl : l.length ≤ 900000000) : Calls Try.prog 15 #[v] w fun e w' => e = .returned (.string (loF x.lo l)) ∧ Chg (fun _ => False) w w' := by
  have hh := pick_hull x r l hx v w h hl
  have HH := Lib.hid hh
  clear hh h hx
  go_enter Try.func15, Try.ntmps15
  go_wp2_with fail
  refine HH.out.mono ?_
  rintro e w' ⟨rfl, hc⟩
  have HC := Lib.hid hc
  clear hc
  go_wp2_with fail
  go_ret
  exact ⟨rfl, HC.out⟩
set_option maxRecDepth 100000 in
theorem pick_hi (x : MetaV) (r l : List MetaV) (hx : l = x :: r) (v : Value) (w : World) (h : RM w v l) (hl : l.length ≤ 900000000) : Calls Try.prog 16 #[v] w fun e w' => e = .returned (.string (hiF x.hi l)) ∧ Chg (fun _ => False) w w' := by
  have hh := pick_hull x r l hx v w h hl
  have HH := Lib.hid hh
  clear hh h hx
  go_enter Try.func16, Try.ntmps16
  go_wp2_with fail
  refine HH.out.mono ?_
  rintro e w' ⟨rfl, hc⟩
  have HC := Lib.hid hc
  clear hc
  go_wp2_with fail
  go_ret
  exact ⟨rfl, HC.out⟩
set_option maxRecDepth 100000 in
set_option maxHeartbeats 1000000 in
theorem pick_files (l : List MetaV) (v : Value) (w : World) (h : RM w v l) (hl : l.length ≤ 900000000) : Calls Try.prog 17 #[v] w (LPost i64C w (l.map (·.file))) := by
  obtain ⟨a, cap, rfl, h1, h2, h3⟩ := h
  have HR := Lib.hid h3
  clear h3
  go_enter Try.func17, Try.ntmps17
  go_wp2_with fail
  go_loopw [3, 8] (fun out i wr => ∃ A R, l = A ++ R ∧ i = .int .i64 A.length ∧ Lst i64C wr out (A.map (·.file)) ∧ (∀ k, out.ownBlock = some k → w.heap.size ≤ k) ∧ Chg (fun _ => False) w wr) (fun _ i _ => l.length - (intOf i).toNat)
  case atStart => exact ⟨[], l, rfl, rfl, Lst.nil _ _, by simp [Value.ownBlock], Chg.refl _ _⟩
  case round =>
    obtain ⟨A, R, hL, rfl, hO, hk, hc⟩ := hrel
    obtain ⟨G, hG⟩ : ∃ G, A.map (·.file) = G := ⟨_, rfl⟩
    rw [hG] at hO
    have hGl : G.length = A.length := by rw [← hG]; simp
    obtain ⟨oa, oc, rfl, _, _, _⟩ := i64_form hO
    have hAl : A.length ≤ l.length := by rw [hL]; simp
    have hGl2 : G.length ≤ 900000000 := by omega
    have hcs := hc.size
    have HG := Lib.hid hG
    have HO := Lib.hid hO
    have HK := Lib.hid hk
    have HC := Lib.hid hc
    cases R with
    | nil =>
      have hge : ¬ ((A.length : Int) < (l.length : Int)) := by rw [hL]; simp
      have hA : l = A := by rw [hL]; simp
      have HA := Lib.hid hA
      clear hL hA hc hO hk hG hGl
      go_wp2_with fail
      go_ret
      exact ⟨_, rfl, by rw [HA.out, HG.out]; exact HO.out, HK.out, HC.out⟩
    | cons y B =>
      obtain ⟨b, off, rfl, hb', z0, z1, z2, z3⟩ := HR.out A y B hL
      have z0 := (hc.cell (p := ⟨b, _, none⟩) hb' (by simp)).trans z0
      have z1 := (hc.cell (p := ⟨b, _, none⟩) hb' (by simp)).trans z1
      have z2 := (hc.cell (p := ⟨b, _, none⟩) hb' (by simp)).trans z2
      have z3 := (hc.cell (p := ⟨b, _, none⟩) hb' (by simp)).trans z3
      have hlt : (A.length : Int) < (l.length : Int) := by rw [hL]; simp; omega
      have hge : (0 : Int) ≤ (A.length : Int) := by omega
      have hL2 : l = (A ++ [y]) ++ B := by rw [hL]; simp
      have HL2 := Lib.hid hL2
      clear hL hL2 hc hO hk hG hGl
      go_wp2_with (at_builtin; refine wpList_lst_app i64Ok _ (by rfl) _ _ (by rfl) G _ y.file (by rfl) (HO.out.same (by ((repeat (first | exact Chg.refl _ _ | assumption | refine Chg.drewN ?_ _ | refine Chg.drew ?_ | refine Chg.alloc ?_ _ | refine Chg.setCell ?_ (by first | (simp; done) | (simp; omega) | (intro h; simp at h; omega)) _))))) _ (by rfl) (by omega) (by (first | exact Blk.new _ _ _ | exact Blk.new1 _ _ _ _ | exact Blk.new2 _ _ _ _ _ | exact Blk.drew (Blk.new _ _ _) | exact Blk.drew (Blk.new1 _ _ _ _) | exact Blk.drew (Blk.new2 _ _ _ _ _) | exact Blk.drew (Blk.drew (Blk.new _ _ _)) | exact Blk.drewN (Blk.new _ _ _) _ | exact Blk.drewN (Blk.new1 _ _ _ _) _)) ?_)
      intro v' w' hO' hcg hb'
      have hk' : ∀ b, v'.ownBlock = some b → w.heap.size ≤ b := fun k' hk' => by
        rcases hb' k' hk' with e | e
        · exact HK.out k' e
        · omega
      have hc' : Chg (fun _ => False) w w' := Chg.trans ((HC.out.alloc _).alloc _) hcg (fun k hk e => by have := HK.out k e; omega)
      have HO' := Lib.hid hO'
      have HK' := Lib.hid hk'
      have HC' := Lib.hid hc'
      clear hO' hcg hb' hk' hc'
      go_wp2_with fail
      go_roundw
      case rel => exact ⟨A ++ [y], B, HL2.out, by simp, by have := HO'.out; rw [← HG.out] at this; simpa using this, HK'.out, HC'.out⟩
      case measure => simp [intOf]; omega
set_option maxRecDepth 100000 in
set_option maxHeartbeats 1000000 in
/-- slices.Clone of tables: a slice of its own. -/
theorem pick_clone (l : List MetaV) (v : Value) (w : World) (h : RM w v l) (hl : l.length ≤ 900000000) : Calls Try.prog 11 #[v] w fun e w' => ∃ v', e = .returned v' ∧ Lst metaC w' v' l ∧ Chg (fun _ => False) w w' := by
  obtain ⟨i0, hi0, hz0, hz1, hz2⟩ := info_parts metaOk.info
  obtain ⟨a, cap, rfl, h1, h2, h3⟩ := h
  have hh : RM w (.slice a l.length cap) l := ⟨a, cap, rfl, h1, h2, h3⟩
  cases a with
  | none =>
    have hl0 : l = [] := by
      cases l with
      | nil => rfl
      | cons x r => obtain ⟨b, off, e, _⟩ := h3 [] x r rfl; cases e
    subst hl0
    have hq : (binOp .eql 26 (.slice none 0 cap) (.slice none 0 0)).run Try.prog w = .ok (.bool true) w := Lib.run_eql_slice_nil w 26 44 none 0 cap 0 0 Try.underlying26
    clear hh h3
    go_enter Try.func11, Try.ntmps11
    go_wp2_with fail
    go_ret
    exact ⟨_, rfl, Lst.nil _ _, Chg.refl _ _⟩
  | some ad =>
    have hsrc := (hh.same (show Chg (fun _ => False) w (w.alloc (.cells #[] 44)) from (Chg.refl _ _).alloc _)).src
    have HS := Lib.hid hsrc
    have hq : (binOp .eql 26 (.slice (some ad) l.length cap) (.slice none 0 0)).run Try.prog w = .ok (.bool false) w := Lib.run_eql_slice_nil w 26 44 (some ad) l.length cap 0 0 Try.underlying26
    clear hh h3 hsrc
    go_enter Try.func11, Try.ntmps11
    go_wp2_with (at_builtin; refine wpList_own_append _ rfl _ _ _ _ rfl 44 i0 metaC.zero 4 48 Try.underlying26 hi0 hz0 hz1 hz2 metaOk.zsize (.slice (some ⟨w.heap.size, 0, none⟩) 0 0) 0 [] rfl ⟨rfl, .inr ⟨w.heap.size, 0, #[], rfl, heap_alloc_new _ _, Nat.le_refl _, Nat.zero_le _, Nat.le_refl _, rfl⟩⟩ _ l.length (l.flatMap metaC.g) rfl HS.out (by unfold maxLen; omega) (by omega) ?_)
    intro v' w2 hown hg hvb
    have hc2 : Chg (fun k => k = w.heap.size) (w.alloc (.cells #[] 44)) w2 := (chg_grown hg).mono fun k _ e => by simp [Value.ownBlock] at e; exact e.symm
    have hcw : Chg (fun _ => False) w w2 := ((Chg.refl (fun _ => False) w).alloc _).own hc2 (Nat.le_refl _)
    have hO : Lst metaC w2 v' l := by
      have : Own w2 44 4 v' l.length (l.flatMap metaC.g) := by simpa using hown
      exact this
    have HO := Lib.hid hO
    have HCW := Lib.hid hcw
    clear hown hg hvb hc2 hcw hO
    go_wp2_with fail
    go_ret
    exact ⟨v', rfl, HO.out, HCW.out⟩

/-- append(from[:n:n], to...): whatever becomes of it, it reads as both. -/
theorem run_both (l m : List MetaV) (v u : Value) (w : World) (ty : TypeId) (hv : RM w v l) (hu : RM w u m) (hl : l.length ≤ 500000000) (hm : m.length ≤ 500000000) (a : Option Addr) (cap : Nat) (e : v = .slice a l.length cap) (hne : l ≠ []) :
    ∃ v' w', (Builtin.append_ #[26, 26] ty #[.slice a l.length l.length, u]).run Try.prog w = .ok v' w' ∧ RM w' v' (l ++ m) ∧ Chg (fun _ => False) w w' := by
  subst e
  obtain ⟨i0, hi0, hz0, hz1, hz2⟩ := info_parts metaOk.info
  have hz1 : i0.size = 4 := hz1
  have hz2 : i0.bytes = 48 := hz2
  obtain ⟨a', cap', e', h1, h2, h3⟩ := hv
  cases e'
  have hv' : RM w (.slice a l.length l.length) l := ⟨a, l.length, rfl, Nat.le_refl _, by omega, h3⟩
  have hs1 := hv'.src
  have hs2 := hu.src
  rcases Nat.eq_zero_or_pos m.length with hm0 | hm0
  · obtain rfl := List.eq_nil_of_length_eq_zero hm0
    refine ⟨_, w, run_append_nothing w 26 26 ty 44 i0 Try.underlying26 hi0 a l.length l.length (Nat.le_refl _) u (by rw [hz1]; exact hs2), ?_, Chg.refl _ _⟩
    rw [List.append_nil]
    exact hv'
  · have hr := run_append_grow_src (P := Try.prog) w 26 26 ty 44 i0 metaC.zero Try.underlying26 hi0 hz0 a l.length l.length (l.flatMap metaC.g) (by rw [hz1]; exact hs1.cellsD) u m.length (m.flatMap metaC.g) (by rw [hz1]; exact hs2) (by omega) (by omega) (growslice_fits (by omega) (by rw [hz2]; omega))
    have hlen : (l.flatMap metaC.g ++ m.flatMap metaC.g).length = (l.length + m.length) * 4 := by
      rw [List.length_append, flat_len metaOk.len, flat_len metaOk.len]
      show l.length * 4 + m.length * 4 = _
      omega
    have hge := grownCap_ge w (l.length + m.length) l.length 44
    have hcm : grownCap w (l.length + m.length) l.length 44 ≤ maxLen := grownCap_le_maxLen w (l.length + m.length) l.length 44 (by unfold maxLen; omega)
    refine ⟨_, _, hr, RM.of_lst (l := l ++ m) ?_, ((Chg.refl _ w).drew).alloc _⟩
    have hO : Own (w.drew.alloc (.cells ((l.flatMap metaC.g ++ m.flatMap metaC.g).toArray ++ Builtin.zeroCells metaC.zero.cells (grownCap w (l.length + m.length) l.length 44 - (l.length + m.length))) 44)) 44 4 (.slice (some ⟨w.heap.size, 0, none⟩) (l.length + m.length) (grownCap w (l.length + m.length) l.length 44)) (l.length + m.length) (l.flatMap metaC.g ++ m.flatMap metaC.g) := by
      refine ⟨hlen, .inr ⟨w.heap.size, _, _, rfl, heap_alloc_new w.drew _, hge, hcm, ?_, ?_⟩⟩
      · simp only [Array.size_append, List.size_toArray, size_zeroCells, metaOk.zsize, hlen, ← Nat.add_mul]
        show _ ≤ _ + _ * 4
        omega
      · simp only [Array.toList_append]
        rw [← hlen]
        exact List.take_left
    unfold Lst
    rw [List.length_append, List.flatMap_append]
    exact hO
end Go.Proofs.Ytkhgfmmcjoglkaa
