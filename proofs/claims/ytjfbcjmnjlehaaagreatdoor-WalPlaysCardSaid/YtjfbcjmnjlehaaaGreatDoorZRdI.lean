/-
  The document's disk: Create.
-/
import Derived.Test.YtjfbcjmnjlehaaaGreatDoorZRdH
namespace Go.Proofs.YtjfbcjmnjlehaaaGreatDoor
open Go.RowKit
set_option linter.unusedVariables false
set_option linter.unusedSimpArgs false

theorem info_rfile : (Tryz.prog.info? 106).map (fun i => (i.zero, i.size, i.bytes)) = some (some (.agg #[.string ⟨#[]⟩, .int .i64 0]), 2, 24) := by kernel_rfl
theorem flCells_snoc (l : List FileV) (f : FileV) : flCells (l ++ [f]) = flCells l ++ [.string f.data, .int .i64 f.lasts] := by simp [flCells]
/-- A file is added. -/
theorem RIn.addFile {w w2 : World} {r : Nat} {D : DiskV} {y : RLay} {M : Nat → Prop} {v' : Value} {f : FileV} (h : RIn w r D y M) (hg : Chg (fun k => y.fv.ownBlock = some k) w w2) (ho : Own w2 106 2 v' (D.files ++ [f]).length (flCells (D.files ++ [f])))
    (hv : ∀ k, v'.ownBlock = some k → y.fv.ownBlock = some k ∨ w.heap.size ≤ k) :
    RIn (w2.setCell ⟨r, 1, none⟩ v') r { D with files := D.files ++ [f] } { y with fv := v' } (Mx M w w2) ∧ Chg M w (w2.setCell ⟨r, 1, none⟩ v') := by
  obtain ⟨n1, n2, n3, n4, n5, n6⟩ := h.ne
  have hr2 := h.blk.chg hg (fun e => n1 r e rfl)
  have hset : Chg (fun k => k = r) w2 (w2.setCell ⟨r, 1, none⟩ v') := Chg.setOwn (Chg.refl _ _) _ _
  have hall : Chg (fun k => k = r ∨ y.fv.ownBlock = some k) w (w2.setCell ⟨r, 1, none⟩ v') := (hg.mono fun k _ e => .inr e).trans hset fun k _ e => .inl e
  have hs0 := hg.size
  have hm := h.mine
  have dn : ∀ {t : TypeId} {k : Nat} {cs : Array Value}, Blk w k t cs → t ≠ 106 → y.fv.ownBlock = some k → False := fun hb ht e => by
    obtain ⟨cs2, hb2⟩ := h.parts.files.typed e
    exact hb.ne_ hb2 ht rfl
  refine ⟨⟨?_, ⟨?_, RNm.chg h.parts.names hall fun k hk e => ?_, RNm.chg h.parts.lasts hall fun k hk e => ?_, h.parts.queue.chg hall fun k hk e => ?_, h.parts.cutb.chg hall fun k hk e => ?_⟩, h.cnb, ?_, ?_⟩, hall.mono fun k _ e => ?_⟩
  · have := hr2.set_ 1 v'
    simpa [rCells] using this
  · exact ho.chg hset fun k hk e => by
      obtain ⟨cs, hb⟩ := ho.typed hk
      exact hb.ne_ hr2 (by decide) e
  · rcases e with e | e
    · exact n2 k hk e
    · obtain ⟨cs, hb⟩ := Own.typed h.parts.names hk
      exact dn hb (by decide) e
  · rcases e with e | e
    · exact n3 k hk e
    · obtain ⟨cs, hb⟩ := Own.typed h.parts.lasts hk
      exact dn hb (by decide) e
  · rcases hk with hk | ⟨j, hk⟩
    · rcases e with e | e
      · exact n4 k hk e
      · obtain ⟨cs, hb⟩ := h.parts.queue.own.typed hk
        exact dn hb (by decide) e
    · rcases e with e | e
      · exact n5 j k hk e
      · obtain ⟨cs, hb⟩ := h.parts.queue.stepTyped hk
        exact dn hb (by decide) e
  · rcases e with e | e
    · exact n6 k hk e
    · obtain ⟨cs, hb⟩ := h.parts.cutb.typed hk
      exact dn hb (by decide) e
  · rintro k (e | e | e | e | e | e | e)
    · exact .inl (hm k (.inl e))
    · rcases hv k e with e' | e'
      · exact .inl (hm k (.inr (.inl e')))
      · exact .inr ⟨e', ho.lt e⟩
    · exact .inl (hm k (.inr (.inr (.inl e))))
    · exact .inl (hm k (.inr (.inr (.inr (.inl e)))))
    · exact .inl (hm k (.inr (.inr (.inr (.inr (.inl e))))))
    · exact .inl (hm k (.inr (.inr (.inr (.inr (.inr (.inl e)))))))
    · exact .inl (hm k (.inr (.inr (.inr (.inr (.inr (.inr e)))))))
  · intro k hk
    have := mx_lt h.lt hs0 k hk
    simpa [World.setCell] using this
  · rcases e with e | e
    · rw [e]; exact hm r (.inl rfl)
    · exact hm k (.inr (.inl e))
def newF (D : DiskV) : DiskV := { D with files := D.files ++ [⟨⟨#[]⟩, 0⟩] }
theorem newF_ok {D : DiskV} (h : DiskOk D) : DiskOk (newF D) := ⟨h.names.mono (by simp [newF]), h.lasts.mono (by simp [newF]), fun s hs => (h.queue s hs).mono (by simp [newF]), fun f hf => by
    rcases List.mem_append.1 hf with hf | hf
    · exact h.file f hf
    · simp at hf; subst hf; exact ⟨Nat.le_refl _, by simp [ByteArray.size]⟩, h.room, h.cutL, h.fullL, h.cutN, h.cutB⟩
theorem change_newF {D : DiskV} (n : ByteArray) (ht : trapN D ≠ 2) : changeD (newF D) true (namesA [(n, some D.files.length)]) = changeD D true (createA n) := by
  rw [change_true, change_true]
  have e : trapN (newF D) = trapN D := rfl
  rw [e, if_neg ht, if_neg ht, namesA_one]
  rfl
theorem change_noF {D : DiskV} (n : ByteArray) (s : StepV) (ht : trapN D = 2) : changeD D true (namesA s) = changeD D true (createA n) := by
  rw [change_true, change_true, if_pos ht, if_pos ht]

section
variable (r : Nat) (D : DiskV) (M : Nat → Prop) (n : ByteArray) (hsm : RSm D) (hF : D.files.length ≤ 800000) (hN : D.names.length ≤ 4096) (w : World) (h : RAt w r D M)
include hsm h hF hN
set_option maxRecDepth 100000 in
set_option maxHeartbeats 4000000 in
theorem rd_create : Calls Tryz.prog 33 #[.pointer (some ⟨r, 0, none⟩), .string n] w fun e w' => e = .returned (.int .i64 (createD D n).1) ∧ RPost w r M (createD D n).2 w' := by
  have hat := h
  obtain ⟨hok, y, hin, hce⟩ := h
  obtain ⟨_, c1, c2, _, _, c5, c6, _, _, c9⟩ := rin_cells hin
  have hfind := fun W hW => rd_find (ofNames D.names) n y.nv W (hin.parts.names.same (w' := W) hW)
  rw [findN_eq] at hfind
  have hsame : ∀ W, Chg (fun _ => False) w W → RPost w r M D W := fun W hW => RPost.same (hat.same hW) hat.lt (hW.mono (by simp))
  have HS := Lib.hid hsame
  unfold createD
  cases ho : D.off with
  | true =>
    rw [ho] at c5
    clear hin hfind hok ho hat hsame hsm hce
    go_enter Tryz.func33, Tryz.ntmps33
    go_wp2_with fail
    go_ret
    exact ⟨rfl, HS.out _ (Chg.refl _ _)⟩
  | false =>
    rw [ho] at c5
    simp only [Bool.false_eq_true, if_false]
    by_cases h0 : n.size = 0
    · have hbn : n = ⟨#[]⟩ := by
        cases n with | mk a => cases a with | mk l => cases l with | nil => rfl | cons x xs => simp [ByteArray.size] at h0
      subst hbn
      have hg : goodN ⟨#[]⟩ = false := by decide +kernel
      rw [hg]
      simp only [Bool.not_false, if_true]
      clear hin hfind hok ho hat hsame hsm hce h0 hg
      go_enter Tryz.func33, Tryz.ntmps33
      go_wp2_with fail
      go_ret
      exact ⟨rfl, HS.out _ (by ((repeat (first | exact Chg.refl _ _ | assumption | refine Chg.drewN ?_ _ | refine Chg.drew ?_ | refine Chg.alloc ?_ _ | refine Chg.setCell ?_ (by first | (simp; done) | (simp; omega) | (intro h; simp at h; omega)) _))))⟩
    · have hne : ¬ n.toList = [] := fun e => h0 (by
        have : n.toList.length = n.size := by rw [ByteArray.toList_eq]; exact Array.length_toList
        rw [e] at this; simpa using this.symm)
      have hne2 : (n.toList == []) = false := by simp [hne]
      have hne3 : n.toList.isEmpty = false := by simp [hne]
      by_cases h1 : n.size ≤ 64
      · have hg : goodN n = true := by simp [goodN, h0, h1]
        rw [hg]
        simp only [Bool.not_true, Bool.false_eq_true, if_false]
        have h1' : (n.size : Int) ≤ 64 := by omega
        cases hk : look D.names n with
        | some i =>
          rw [hk] at hfind
          have hi0 : (0 : Int) ≤ (i : Int) := by omega
          have HF := Lib.hid hfind
          clear hin hfind hok hk ho hat hsame hsm hce h0 h1 hg hne
          generalize y.nv = nv at *
          go_enter Tryz.func33, Tryz.ntmps33
          go_wp2_with fail
          refine (HF.out _ (Chg.refl _ _)).mono ?_
          rintro e w' ⟨rfl, m, rfl⟩
          go_wp2_with fail
          go_ret
          exact ⟨rfl, HS.out _ (by ((repeat (first | exact Chg.refl _ _ | assumption | refine Chg.drewN ?_ _ | refine Chg.drew ?_ | refine Chg.alloc ?_ _ | refine Chg.setCell ?_ (by first | (simp; done) | (simp; omega) | (intro h; simp at h; omega)) _))))⟩
        | none =>
          rw [hk] at hfind
          obtain ⟨na, nc, hnv, _, hnn, _⟩ := rnm_form hin.parts.names
          rw [ofNames_len] at hnv
          have HF := Lib.hid hfind
          simp only
          by_cases hfull : D.names.length = 4096
          · rw [if_pos hfull]
            rw [hnv, hfull] at c2
            rw [hnv, hfull] at hfind
            have HF := Lib.hid hfind
            clear hin hfind hok hk ho hat hsame hsm hce h0 h1 hg hne hnv hfull
            go_enter Tryz.func33, Tryz.ntmps33
            go_wp2_with fail
            refine (HF.out _ (Chg.refl _ _)).mono ?_
            rintro e w' ⟨rfl, m, rfl⟩
            go_wp2_with fail
            go_ret
            exact ⟨rfl, HS.out _ (by ((repeat (first | exact Chg.refl _ _ | assumption | refine Chg.drewN ?_ _ | refine Chg.drew ?_ | refine Chg.alloc ?_ _ | refine Chg.setCell ?_ (by first | (simp; done) | (simp; omega) | (intro h; simp at h; omega)) _))))⟩
          · rw [if_neg hfull]
            have hlt : (D.names.length : Int) < 4096 := by omega
            obtain ⟨fa, fc, hfv, _, hfn, _⟩ := rfl_form hin.parts.files
            rw [hfv] at c1
            rw [hnv] at c2 hfind
            have HF := Lib.hid hfind
            by_cases ht : trapN D = 2
            · have h12 : ¬ D.cutL = 1 ∧ D.fullL = 1 := by
                unfold trapN at ht
                rcases spring_ways hok.cutL with ⟨_, e1⟩ | ⟨_, e1⟩ | ⟨_, e1⟩ <;> rcases spring_ways hok.fullL with ⟨_, e2⟩ | ⟨_, e2⟩ | ⟨_, e2⟩ <;> rw [e1, e2] at ht <;> simp at ht <;> omega
              obtain ⟨hcl, hfl⟩ := h12
              obtain ⟨o, ho1, ho2⟩ : ∃ o : Option Nat, ((D.files.length : Int) - 1 = (ofChg (n, o)).2) ∧ ∀ i, o = some i → i < D.files.length := by
                by_cases hz : D.files.length = 0
                · exact ⟨none, by rw [hz]; rfl, by simp⟩
                · exact ⟨some (D.files.length - 1), by show _ = ((D.files.length - 1 : Nat) : Int); omega, fun i hi => by cases hi; omega⟩
              have hst : StepOk [(n, o)] D.files.length := fun c hc => by simp at hc; subst hc; exact ⟨h1, ho2⟩
              have hcall := fun W1 hc hb => names_call r D M hsm w hat [(n, o)] _ rfl hst (by simp) W1 hc w.heap.size (Nat.le_refl _) #[.string n, .int .i64 ((D.files.length : Int) - 1)] hb (by rw [ho1]; rfl)
              rw [change_noF n _ ht] at hcall
              have HC := Lib.hid hcall
              rw [hfl] at c9
              have hfl2 : (D.files.length : Int) ≤ 800000 := by omega
              clear hin hfind hok hk ho hat hsame hsm hce h0 h1 hg hne hnv hfull hfv ht hcall hst ho1 ho2 hfl
              generalize D.cutL = cl at *
              go_enter Tryz.func33, Tryz.ntmps33
              go_wp2_with fail
              refine (HF.out _ (Chg.refl _ _)).mono ?_
              rintro e w' ⟨rfl, m, rfl⟩
              go_wp2_with fail
              refine (HC.out _ (by ((repeat (first | exact Chg.refl _ _ | assumption | refine Chg.drewN ?_ _ | refine Chg.drew ?_ | refine Chg.alloc ?_ _ | refine Chg.setCell ?_ (by first | (simp; done) | (simp; omega) | (intro h; simp at h; omega)) _)))) (by exact Blk.new _ _ _)).mono ?_
              rintro e w2 ⟨rfl, hp⟩
              have HP := Lib.hid hp
              clear hp
              go_wp2_with fail
              go_ret
              exact ⟨rfl, HP.out⟩
            · have h12 : ¬ D.fullL = 1 ∨ (D.fullL = 1 ∧ D.cutL = 1) := by
                unfold trapN at ht
                rcases spring_ways hok.cutL with ⟨_, e1⟩ | ⟨_, e1⟩ | ⟨_, e1⟩ <;> rcases spring_ways hok.fullL with ⟨_, e2⟩ | ⟨_, e2⟩ | ⟨_, e2⟩ <;> rw [e1, e2] at ht <;> simp at ht <;> omega
              obtain ⟨i0, hi0, hz0, hz1, hz2⟩ := info_parts info_rfile
              have hfO : ∀ W, Chg (fun _ => False) w W → Own W 106 2 (.slice fa D.files.length fc) D.files.length (flCells D.files) := fun W hW => by
                have := hin.parts.files.same hW
                rw [hfv] at this
                exact this
              have hst : StepOk [(n, some D.files.length)] (newF D).files.length := fun c hc => by simp at hc; subst hc; exact ⟨h1, fun i hi => by cases hi; simp [newF]⟩
              have hsm2 : RSm (newF D) := ⟨hsm.q, by simp [newF]; omega, hsm.n, hsm.l, hsm.s⟩
              have hcall := fun w3 M3 hat3 W1 hc g hg hb => names_call r (newF D) M3 hsm2 w3 hat3 [(n, some D.files.length)] _ rfl hst (by simp) W1 hc g hg #[.string n, .int .i64 D.files.length] hb rfl
              rw [change_newF n ht] at hcall
              have f1 := hin.blk.frozen 1
              have hrl := hin.blk.lt
              have hfr : ¬ (Value.slice fa D.files.length fc).ownBlock = some r := fun e => hin.ne.1 r (by rw [hfv]; exact e) rfl
              have HC := Lib.hid hcall
              have HIN := Lib.hid hin
              have HFO := Lib.hid hfO
              have HFV := Lib.hid hfv
              have HOK := Lib.hid hok
              have HCE := Lib.hid hce
              have hfl2 : (D.files.length : Int) ≤ 800000 := by omega
              have hw1 : IntKind.i64.wrap (((D.files.length + 1 : Nat) : Int) - 1) = D.files.length := by rw [show ((D.files.length + 1 : Nat) : Int) - 1 = D.files.length from by omega]; exact IntWalk.i64_in _ (by omega)
              clear hin hfind hok hk ho hat hsame hsm hce h0 h1 hg hne hnv hfull hfv ht hcall hst hsm2 hfO
              rcases h12 with hfl | ⟨hfl, hcl⟩
              · generalize D.fullL = fl at *
                generalize D.cutL = cl at *
                go_enter Tryz.func33, Tryz.ntmps33
                go_wp2_with fail
                refine (HF.out _ (Chg.refl _ _)).mono ?_
                rintro e w' ⟨rfl, m, rfl⟩
                go_wp2_with (at_builtin; refine wpList_own_append _ (by rfl) _ _ _ _ (by rfl) 106 i0 (.agg #[.string ⟨#[]⟩, .int .i64 0]) 2 24 Tryz.underlying68 hi0 hz0 hz1 hz2 rfl (.slice fa D.files.length fc) D.files.length (flCells D.files) (by rfl) (HFO.out _ (by ((repeat (first | exact Chg.refl _ _ | assumption | refine Chg.drewN ?_ _ | refine Chg.drew ?_ | refine Chg.alloc ?_ _ | refine Chg.setCell ?_ (by first | (simp; done) | (simp; omega) | (intro h; simp at h; omega)) _))))) _ 1 [.string ⟨#[]⟩, .int .i64 0] (by rfl) (Src.ofSlice _ Tryz.underlying68 ⟨w.heap.size, 0, none⟩ 1 1 _ rfl (World.news_of_block (cs := #[.string ⟨#[]⟩, .int .i64 0]) (t := 106) (fr := (0, 0)) (by first | exact heap_alloc_new _ _ | exact Blk.drew (Blk.new _ _ _))) (by simp [Value.oneCell'])) (by unfold maxLen; omega) (by omega) ?_)
                intro v' w4 hown4 hgrow hvb
                obtain ⟨va4, vc4, hv4, _, _, _⟩ := hown4.reads
                subst hv4
                have hg4 : Chg (fun k => (Value.slice fa D.files.length fc).ownBlock = some k) w w4 := Chg.grown (w1 := _) (by ((repeat (first | exact Chg.refl _ _ | assumption | refine Chg.drewN ?_ _ | refine Chg.drew ?_ | refine Chg.alloc ?_ _ | refine Chg.setCell ?_ (by first | (simp; done) | (simp; omega) | (intro h; simp at h; omega)) _)))) hgrow (fun k e _ => e)
                have f1' := (hg4.frozen (p := ⟨r, 1, none⟩) hrl hfr).trans f1
                have c1' := (hg4.cell (p := ⟨r, 1, none⟩) hrl hfr).trans c1
                obtain ⟨hA, hAc⟩ := HIN.out.addFile (f := ⟨⟨#[]⟩, 0⟩) (by rw [HFV.out]; exact hg4) (by rw [flCells_snoc, List.length_append, List.length_singleton]; exact hown4) (by rw [HFV.out]; exact own_or hvb (by simp))
                obtain ⟨w5, hw5⟩ : ∃ w5, w5 = w4.setCell ⟨r, 1, none⟩ (.slice va4 (D.files.length + 1) vc4) := ⟨_, rfl⟩
                have hs5e : w5.heap.size = w4.heap.size := by rw [hw5]; simp [World.setCell]
                have HS5 := Lib.hid hs5e
                have hs5 : w5.heap.size ≤ w4.heap.size ∧ w4.heap.size ≤ w5.heap.size := by omega
                clear hs5e
                rw [← hw5] at hA hAc
                have hA2 := hA.more (N := Mx M w w5) (fun k hk => by
                  rcases hk with e | e
                  · exact .inl e
                  · exact .inr ⟨e.1, by omega⟩) (mx_lt HIN.out.lt hAc.size)
                have hAt : RAt w5 r (newF D) (Mx M w w5) := ⟨newF_ok HOK.out, _, hA2, HCE.out⟩
                have k1 := hA2.blk.cell 1
                simp [rCells] at k1
                have HAT := Lib.hid hAt
                have HAC := Lib.hid hAc
                have HW5 := Lib.hid hw5
                have HLT := Lib.hid HIN.out.lt
                clear hown4 hgrow hvb hg4 hA hAc hA2 hAt hw5 hs5 HIN HFO HFV HF
                go_wp2_with fail
                rw [← HW5.out]
                refine (HC.out w5 _ HAT.out (w5.alloc (.cells #[.string n, .int .i64 D.files.length] 104)) (by ((repeat (first | exact Chg.refl _ _ | assumption | refine Chg.drewN ?_ _ | refine Chg.drew ?_ | refine Chg.alloc ?_ _ | refine Chg.setCell ?_ (by first | (simp; done) | (simp; omega) | (intro h; simp at h; omega)) _)))) w4.heap.size (by have := HS5.out; omega) (by rw [← HS5.out]; exact Blk.new _ _ _)).mono ?_
                rintro e w6 ⟨rfl, hp⟩
                have hp2 : RPost w r M (changeD D true (createA n)).2 w6 := by
                  obtain ⟨ha, hc⟩ := hp
                  have h0 := HAC.out.size
                  have h1 := hc.size
                  refine ⟨ha.more (mx_mx h0 h1) (mx_lt HLT.out (by omega)), HAC.out.trans hc fun k hk e => ?_⟩
                  rcases e with e | e
                  · exact e
                  · omega
                have HP := Lib.hid hp2
                clear hp hp2
                go_wp2_with fail
                go_ret
                exact ⟨rfl, HP.out⟩
              · rw [hfl] at c9
                rw [hcl] at c6
                clear hfl hcl
                go_enter Tryz.func33, Tryz.ntmps33
                go_wp2_with fail
                refine (HF.out _ (Chg.refl _ _)).mono ?_
                rintro e w' ⟨rfl, m, rfl⟩
                go_wp2_with (at_builtin; refine wpList_own_append _ (by rfl) _ _ _ _ (by rfl) 106 i0 (.agg #[.string ⟨#[]⟩, .int .i64 0]) 2 24 Tryz.underlying68 hi0 hz0 hz1 hz2 rfl (.slice fa D.files.length fc) D.files.length (flCells D.files) (by rfl) (HFO.out _ (by ((repeat (first | exact Chg.refl _ _ | assumption | refine Chg.drewN ?_ _ | refine Chg.drew ?_ | refine Chg.alloc ?_ _ | refine Chg.setCell ?_ (by first | (simp; done) | (simp; omega) | (intro h; simp at h; omega)) _))))) _ 1 [.string ⟨#[]⟩, .int .i64 0] (by rfl) (Src.ofSlice _ Tryz.underlying68 ⟨w.heap.size, 0, none⟩ 1 1 _ rfl (World.news_of_block (cs := #[.string ⟨#[]⟩, .int .i64 0]) (t := 106) (fr := (0, 0)) (by first | exact heap_alloc_new _ _ | exact Blk.drew (Blk.new _ _ _))) (by simp [Value.oneCell'])) (by unfold maxLen; omega) (by omega) ?_)
                intro v' w4 hown4 hgrow hvb
                obtain ⟨va4, vc4, hv4, _, _, _⟩ := hown4.reads
                subst hv4
                have hg4 : Chg (fun k => (Value.slice fa D.files.length fc).ownBlock = some k) w w4 := Chg.grown (w1 := _) (by ((repeat (first | exact Chg.refl _ _ | assumption | refine Chg.drewN ?_ _ | refine Chg.drew ?_ | refine Chg.alloc ?_ _ | refine Chg.setCell ?_ (by first | (simp; done) | (simp; omega) | (intro h; simp at h; omega)) _)))) hgrow (fun k e _ => e)
                have f1' := (hg4.frozen (p := ⟨r, 1, none⟩) hrl hfr).trans f1
                have c1' := (hg4.cell (p := ⟨r, 1, none⟩) hrl hfr).trans c1
                obtain ⟨hA, hAc⟩ := HIN.out.addFile (f := ⟨⟨#[]⟩, 0⟩) (by rw [HFV.out]; exact hg4) (by rw [flCells_snoc, List.length_append, List.length_singleton]; exact hown4) (by rw [HFV.out]; exact own_or hvb (by simp))
                obtain ⟨w5, hw5⟩ : ∃ w5, w5 = w4.setCell ⟨r, 1, none⟩ (.slice va4 (D.files.length + 1) vc4) := ⟨_, rfl⟩
                have hs5e : w5.heap.size = w4.heap.size := by rw [hw5]; simp [World.setCell]
                have HS5 := Lib.hid hs5e
                have hs5 : w5.heap.size ≤ w4.heap.size ∧ w4.heap.size ≤ w5.heap.size := by omega
                clear hs5e
                rw [← hw5] at hA hAc
                have hA2 := hA.more (N := Mx M w w5) (fun k hk => by
                  rcases hk with e | e
                  · exact .inl e
                  · exact .inr ⟨e.1, by omega⟩) (mx_lt HIN.out.lt hAc.size)
                have hAt : RAt w5 r (newF D) (Mx M w w5) := ⟨newF_ok HOK.out, _, hA2, HCE.out⟩
                have k1 := hA2.blk.cell 1
                simp [rCells] at k1
                have HAT := Lib.hid hAt
                have HAC := Lib.hid hAc
                have HW5 := Lib.hid hw5
                have HLT := Lib.hid HIN.out.lt
                clear hown4 hgrow hvb hg4 hA hAc hA2 hAt hw5 hs5 HIN HFO HFV HF
                go_wp2_with fail
                rw [← HW5.out]
                refine (HC.out w5 _ HAT.out (w5.alloc (.cells #[.string n, .int .i64 D.files.length] 104)) (by ((repeat (first | exact Chg.refl _ _ | assumption | refine Chg.drewN ?_ _ | refine Chg.drew ?_ | refine Chg.alloc ?_ _ | refine Chg.setCell ?_ (by first | (simp; done) | (simp; omega) | (intro h; simp at h; omega)) _)))) w4.heap.size (by have := HS5.out; omega) (by rw [← HS5.out]; exact Blk.new _ _ _)).mono ?_
                rintro e w6 ⟨rfl, hp⟩
                have hp2 : RPost w r M (changeD D true (createA n)).2 w6 := by
                  obtain ⟨ha, hc⟩ := hp
                  have h0 := HAC.out.size
                  have h1 := hc.size
                  refine ⟨ha.more (mx_mx h0 h1) (mx_lt HLT.out (by omega)), HAC.out.trans hc fun k hk e => ?_⟩
                  rcases e with e | e
                  · exact e
                  · omega
                have HP := Lib.hid hp2
                clear hp hp2
                go_wp2_with fail
                go_ret
                exact ⟨rfl, HP.out⟩
      · have hg : goodN n = false := by simp [goodN, h0, h1]
        rw [hg]
        simp only [Bool.not_false, if_true]
        have h1' : ¬ (n.size : Int) ≤ 64 := by omega
        clear hin hfind hok ho hat hsame hsm hce h0 h1 hg hne
        go_enter Tryz.func33, Tryz.ntmps33
        go_wp2_with fail
        go_ret
        exact ⟨rfl, HS.out _ (by ((repeat (first | exact Chg.refl _ _ | assumption | refine Chg.drewN ?_ _ | refine Chg.drew ?_ | refine Chg.alloc ?_ _ | refine Chg.setCell ?_ (by first | (simp; done) | (simp; omega) | (intro h; simp at h; omega)) _))))⟩
end
end Go.Proofs.YtjfbcjmnjlehaaaGreatDoor
