/-
  Which tables may hold a key of a span: the program's over and Over, and the document's.
-/
import Derived.Test.YtkhgfmmcjoglkaaVerKa
import Derived.Test.YtkhgfmmcjoglkaaVerD
import Derived.IntWalk
namespace Go.Proofs.Ytkhgfmmcjoglkaa
open Go.RowKit
set_option linter.unusedVariables false
set_option linter.unusedSimpArgs false

def overB (lo hi : ByteArray) (m : MetaV) : Bool := !sl m.hi lo && !sl hi m.lo
def oversV (S : VerV) (n : Int) (lo hi : ByteArray) : List MetaV := if 0 ≤ n ∧ n < 4 then (S.lv n.toNat).filter (overB lo hi) else []
def overP (n : Int) (lo hi : ByteArray) (p : PlaceV) : Bool := decide (p.level = n) && overB lo hi p.m
theorem overs_flat (S : VerV) (n : Int) (lo hi : ByteArray) : (flat S).filter (overP n lo hi) = (oversV S n lo hi).map fun m => ⟨n, m⟩ := by
  have h : ∀ k : Nat, (atLevel k (S.lv k)).filter (overP n lo hi) = if (k : Int) = n then ((S.lv k).filter (overB lo hi)).map fun m => ⟨n, m⟩ else [] := fun k => by
    unfold atLevel
    rw [List.filter_map]
    by_cases hk : (k : Int) = n
    · rw [if_pos hk]
      have : (overP n lo hi ∘ fun m => (⟨(k : Int), m⟩ : PlaceV)) = overB lo hi := by
        funext m
        simp [overP, hk]
      rw [this, hk]
    · rw [if_neg hk]
      have : (overP n lo hi ∘ fun m => (⟨(k : Int), m⟩ : PlaceV)) = fun _ => false := by
        funext m
        simp [overP, hk]
      rw [this]
      simp
  unfold flat
  rw [List.filter_append, List.filter_append, List.filter_append, h, h, h, h]
  unfold oversV
  by_cases hn : 0 ≤ n ∧ n < 4
  · rw [if_pos hn]
    obtain ⟨i, rfl⟩ := Int.eq_ofNat_of_zero_le hn.1
    have hi : i < 4 := by omega
    match i, hi with
    | 0, _ => simp
    | 1, _ => simp
    | 2, _ => simp
    | 3, _ => simp
  · rw [if_neg hn, if_neg (by omega), if_neg (by omega), if_neg (by omega), if_neg (by omega)]
    rfl

set_option maxRecDepth 100000 in
set_option maxHeartbeats 1000000 in
theorem ver_may (m : MetaV) (lo hi : ByteArray) (w : World) :
    Calls Try.prog 26 #[.agg #[.int .i64 m.file, .int .i64 m.size, .string m.lo, .string m.hi], .string lo, .string hi] w fun e w' => e = .returned (.bool (overB lo hi m)) ∧ Chg (fun _ => False) w w' := by
  obtain ⟨f, s, mlo, mhi⟩ := m
  simp only
  have hs1 := sl_leq lo mhi
  have hs2 := sl_leq mlo hi
  have hs3 := sl_leq lo mhi
  cases h1 : sl mhi lo with
  | true =>
    have hr : overB lo hi ⟨f, s, mlo, mhi⟩ = false := by simp [overB, h1]
    rw [hr]
    rw [h1] at hs1
    unfold sl at hs1 hs2 h1
    clear hr hs3 hs2
    go_enter Try.func26, Try.ntmps26
    go_wp2
    all_goals go_ret
    all_goals exact ⟨rfl, by ((repeat (first | exact Chg.refl _ _ | assumption | refine Chg.drewN ?_ _ | refine Chg.drew ?_ | refine Chg.alloc ?_ _ | refine Chg.setCell ?_ (by first | (simp; done) | (simp; omega) | (intro h; simp at h; omega)) _)))⟩
  | false =>
    cases h2 : sl hi mlo with
    | true =>
      have hr : overB lo hi ⟨f, s, mlo, mhi⟩ = false := by simp [overB, h2]
      rw [hr]
      rw [h1] at hs1
      rw [h2] at hs2
      unfold sl at hs1 hs2 h1 h2
      clear hr hs3
      go_enter Try.func26, Try.ntmps26
      go_wp2
      all_goals go_ret
      all_goals exact ⟨rfl, by ((repeat (first | exact Chg.refl _ _ | assumption | refine Chg.drewN ?_ _ | refine Chg.drew ?_ | refine Chg.alloc ?_ _ | refine Chg.setCell ?_ (by first | (simp; done) | (simp; omega) | (intro h; simp at h; omega)) _)))⟩
    | false =>
      have hr : overB lo hi ⟨f, s, mlo, mhi⟩ = true := by simp [overB, h1, h2]
      rw [hr]
      rw [h1] at hs1
      rw [h2] at hs2
      unfold sl at hs1 hs2 h1 h2
      clear hr hs3
      go_enter Try.func26, Try.ntmps26
      go_wp2
      all_goals go_ret
      all_goals exact ⟨rfl, by ((repeat (first | exact Chg.refl _ _ | assumption | refine Chg.drewN ?_ _ | refine Chg.drew ?_ | refine Chg.alloc ?_ _ | refine Chg.setCell ?_ (by first | (simp; done) | (simp; omega) | (intro h; simp at h; omega)) _)))⟩

def MPost (w : World) (l : List MetaV) (e : Ending) (w' : World) : Prop := ∃ v, e = .returned v ∧ Lst metaC w' v l ∧ (∀ k, v.ownBlock = some k → w.heap.size ≤ k) ∧ Chg (fun _ => False) w w'
def DPost (w : World) (l : List PlaceV) (e : Ending) (w' : World) : Prop := ∃ v, e = .returned v ∧ Lst docC w' v l ∧ (∀ k, v.ownBlock = some k → w.heap.size ≤ k) ∧ Chg (fun _ => False) w w'
set_option maxRecDepth 100000 in
set_option maxHeartbeats 4000000 in
theorem ver_over (l0 l1 l2 l3 : Value) (S : VerV) (n : Int) (lo hi : ByteArray) (w : World) (h : VerAt w (Lv l0 l1 l2 l3) S.lv) (hn : ∀ i, i < 4 → (S.lv i).length ≤ 100000000) :
    Calls Try.prog 14 #[.agg #[l0, l1, l2, l3, .int .i64 S.log, .int .i64 S.next, .int .i64 S.seq], .int .i64 n, .string lo, .string hi] w (MPost w (oversV S n lo hi)) := by
  obtain ⟨w1, hw1⟩ : ∃ w1, w1 = w.alloc (.cells #[l0, l1, l2, l3, .int .i64 S.log, .int .i64 S.next, .int .i64 S.seq] 29) := ⟨_, rfl⟩
  have hc1 : Chg (fun _ => False) w w1 := by rw [hw1]; ((repeat (first | exact Chg.refl _ _ | assumption | refine Chg.drewN ?_ _ | refine Chg.drew ?_ | refine Chg.alloc ?_ _ | refine Chg.setCell ?_ (by first | (simp; done) | (simp; omega) | (intro h; simp at h; omega)) _)))
  have hb1 : Blk w1 w.heap.size 29 #[l0, l1, l2, l3, .int .i64 S.log, .int .i64 S.next, .int .i64 S.seq] := by rw [hw1]; exact Blk.new w _ _
  by_cases h0 : n < 0
  · have he : oversV S n lo hi = [] := if_neg (by omega)
    rw [he]
    have HC1 := Lib.hid hc1
    have HW1 := Lib.hid hw1
    clear hc1 hw1 hb1 h he
    go_enter Try.func14, Try.ntmps14
    go_wp2_with fail
    go_ret
    exact ⟨_, rfl, Lst.nil _ _, by simp [Value.ownBlock], by ((repeat (first | exact Chg.refl _ _ | assumption | refine Chg.drewN ?_ _ | refine Chg.drew ?_ | refine Chg.alloc ?_ _ | refine Chg.setCell ?_ (by first | (simp; done) | (simp; omega) | (intro h; simp at h; omega)) _)))⟩
  · by_cases h4 : 4 ≤ n
    · have he : oversV S n lo hi = [] := if_neg (by omega)
      rw [he]
      have HC1 := Lib.hid hc1
      have HW1 := Lib.hid hw1
      clear hc1 hw1 hb1 h he
      go_enter Try.func14, Try.ntmps14
      go_wp2_with fail
      go_ret
      exact ⟨_, rfl, Lst.nil _ _, by simp [Value.ownBlock], by ((repeat (first | exact Chg.refl _ _ | assumption | refine Chg.drewN ?_ _ | refine Chg.drew ?_ | refine Chg.alloc ?_ _ | refine Chg.setCell ?_ (by first | (simp; done) | (simp; omega) | (intro h; simp at h; omega)) _)))⟩
    · obtain ⟨k, rfl⟩ := Int.eq_ofNat_of_zero_le (by omega : 0 ≤ n)
      have hk : k < 4 := by omega
      have he : oversV S (k : Int) lo hi = (S.lv k).filter (overB lo hi) := if_pos ⟨by omega, by omega⟩
      rw [he]
      obtain ⟨f, hf⟩ : ∃ f, S.lv k = f := ⟨_, rfl⟩
      have hv := h k hk
      have hnk := hn k hk
      rw [hf] at hv hnk ⊢
      obtain ⟨la, lc, hL, hlc, hln, hread⟩ := meta_form hv
      have hcell : w1.cell? ⟨w.heap.size, k, none⟩ = some (.slice la f.length lc) := by
        rw [← hL]
        have := hb1.cell k
        match k, hk with
        | 0, _ => simpa [Lv] using this
        | 1, _ => simpa [Lv] using this
        | 2, _ => simpa [Lv] using this
        | 3, _ => simpa [Lv] using this
      have hk1 : (k : Int) < 4 := by omega
      have hk2 : (0 : Int) ≤ (k : Int) := by omega
      have HR := Lib.hid hread
      have HC1 := Lib.hid hc1
      have HW1 := Lib.hid hw1
      clear hread hc1 hw1 hb1 h hn he hL hv h0 h4 hf
      go_enter Try.func14, Try.ntmps14
      go_upto_region 3 with fail
      rw [← HW1.out]
      go_wp2_with fail
      go_loopw [9, 23] (fun out i wr => ∃ A R, f = A ++ R ∧ i = .int .i64 A.length ∧ Lst metaC wr out (A.filter (overB lo hi)) ∧ (∀ k, out.ownBlock = some k → w.heap.size ≤ k) ∧ Chg (fun _ => False) w wr) (fun _ i _ => f.length - (intOf i).toNat)
      case atStart => exact ⟨[], f, rfl, rfl, Lst.nil _ _, by simp [Value.ownBlock], HC1.out⟩
      case round =>
        obtain ⟨A, R, hfk, rfl, hO, hk, hc⟩ := hrel
        have hAl : A.length ≤ f.length := by rw [hfk]; simp
        obtain ⟨G, hG⟩ : ∃ G, A.filter (overB lo hi) = G := ⟨_, rfl⟩
        have hGl : G.length ≤ A.length := by rw [← hG]; exact List.length_filter_le _ _
        rw [hG] at hO
        obtain ⟨oa, oc, rfl, _, _, _⟩ := meta_form hO
        have hcs := hc.size
        have HG := Lib.hid hG
        have HO := Lib.hid hO
        have HK := Lib.hid hk
        have HC := Lib.hid hc
        cases R with
        | nil =>
          have hge : ¬ ((A.length : Int) < (f.length : Int)) := by rw [hfk]; simp
          have hend : f.filter (overB lo hi) = G := by rw [← hG, hfk]; simp
          have HE := Lib.hid hend
          clear hfk hO hk hc hG hend
          go_wp2_with fail
          go_ret
          exact ⟨_, rfl, by rw [HE.out]; exact HO.out, HK.out, HC.out⟩
        | cons x B =>
          obtain ⟨b, rfl, hb, _, z0, z1, z2, z3⟩ := HR.out A x B hfk
          have z0 := (hc.cell (p := ⟨b, A.length * 4, none⟩) hb (by simp)).trans z0
          have z1 := (hc.cell (p := ⟨b, A.length * 4 + 1, none⟩) hb (by simp)).trans z1
          have z2 := (hc.cell (p := ⟨b, A.length * 4 + 2, none⟩) hb (by simp)).trans z2
          have z3 := (hc.cell (p := ⟨b, A.length * 4 + 3, none⟩) hb (by simp)).trans z3
          have hlt2 : (A.length : Int) < (f.length : Int) := by rw [hfk]; simp; omega
          have hge : (0 : Int) ≤ (A.length : Int) := by omega
          have hf2 : f = (A ++ [x]) ++ B := by rw [hfk]; simp
          obtain ⟨w5, hw5⟩ : ∃ w5, w5 = wr.alloc (.cells #[.int .i64 x.file, .int .i64 x.size, .string x.lo, .string x.hi] 44) := ⟨_, rfl⟩
          have hc5 : Chg (fun _ => False) wr w5 := by rw [hw5]; ((repeat (first | exact Chg.refl _ _ | assumption | refine Chg.drewN ?_ _ | refine Chg.drew ?_ | refine Chg.alloc ?_ _ | refine Chg.setCell ?_ (by first | (simp; done) | (simp; omega) | (intro h; simp at h; omega)) _)))
          have bx : Blk w5 wr.heap.size 44 #[.int .i64 x.file, .int .i64 x.size, .string x.lo, .string x.hi] := by rw [hw5]; exact Blk.new _ _ _
          have hm := ver_may x lo hi w5
          have j0 := bx.cell 0
          have j1 := bx.cell 1
          have j2 := bx.cell 2
          have j3 := bx.cell 3
          simp at j0 j1 j2 j3
          have HF2 := Lib.hid hf2
          have HW5 := Lib.hid hw5
          have HBX := Lib.hid bx
          have HM := Lib.hid hm
          have HC5 := Lib.hid hc5
          clear hfk hG hO hk hc hf2 hw5 hm bx hc5
          go_upto_region 7 with fail
          rw [← HW5.out]
          cases ho : overB lo hi x with
          | false =>
            have HM2 := Lib.hid (show Calls Try.prog 26 #[.agg #[.int .i64 x.file, .int .i64 x.size, .string x.lo, .string x.hi], .string lo, .string hi] w5 fun e w' => e = .returned (.bool false) ∧ Chg (fun _ => False) w5 w' by rw [← ho]; exact HM.out)
            have HO3 := Lib.hid (show (A ++ [x]).filter (overB lo hi) = G by rw [List.filter_append, HG.out]; simp [ho])
            clear ho
            go_wp2_with fail
            refine HM2.out.mono ?_
            rintro e w6 ⟨rfl, hc6⟩
            have HC6 := Lib.hid (HC5.out.then hc6)
            clear hc6
            go_wp2_with fail
            go_roundw
            case rel => exact ⟨A ++ [x], B, HF2.out, by simp, by rw [HO3.out]; exact HO.out.same HC6.out, HK.out, HC.out.then HC6.out⟩
            case measure => simp [intOf]; omega
          | true =>
            have HM2 := Lib.hid (show Calls Try.prog 26 #[.agg #[.int .i64 x.file, .int .i64 x.size, .string x.lo, .string x.hi], .string lo, .string hi] w5 fun e w' => e = .returned (.bool true) ∧ Chg (fun _ => False) w5 w' by rw [← ho]; exact HM.out)
            have HO3 := Lib.hid (show (A ++ [x]).filter (overB lo hi) = G ++ [x] by rw [List.filter_append, HG.out]; simp [ho])
            clear ho
            go_wp2_with fail
            refine HM2.out.mono ?_
            rintro e w6 ⟨rfl, hc6⟩
            have b6 := HBX.out.chg hc6 (by simp)
            have j0 := b6.cell 0
            have j1 := b6.cell 1
            have j2 := b6.cell 2
            have j3 := b6.cell 3
            simp at j0 j1 j2 j3
            have hs6 := hc6.size
            have hs5 := HC5.out.size
            have HC6 := Lib.hid (HC5.out.then hc6)
            have HO6 := Lib.hid (HO.out.same (HC5.out.then hc6))
            clear hc6 b6
            go_wp2_with (at_builtin; refine wpList_lst_app metaOk _ (by rfl) _ _ (by rfl) G _ x (by rfl) (HO6.out.same (by ((repeat (first | exact Chg.refl _ _ | assumption | refine Chg.drewN ?_ _ | refine Chg.drew ?_ | refine Chg.alloc ?_ _ | refine Chg.setCell ?_ (by first | (simp; done) | (simp; omega) | (intro h; simp at h; omega)) _))))) _ (by rfl) (by omega) (Blk.new _ _ _) ?_)
            intro v' w' hO' hcg hb'
            have hk' : ∀ b, v'.ownBlock = some b → w.heap.size ≤ b := fun k' hk' => by
              rcases hb' k' hk' with e | e
              · exact HK.out k' e
              · have := HC.out.size; omega
            have hc' : Chg (fun _ => False) w w' := Chg.trans ((HC.out.then HC6.out).alloc _) hcg (fun k hk e => by have := HK.out k e; omega)
            have HO' := Lib.hid hO'
            have HK' := Lib.hid hk'
            have HC' := Lib.hid hc'
            clear hO' hcg hb' hk' hc'
            go_wp2_with fail
            go_roundw
            case rel => exact ⟨A ++ [x], B, HF2.out, by simp, by rw [HO3.out]; exact HO'.out, HK'.out, HC'.out⟩
            case measure => simp [intOf]; omega
end Go.Proofs.Ytkhgfmmcjoglkaa
