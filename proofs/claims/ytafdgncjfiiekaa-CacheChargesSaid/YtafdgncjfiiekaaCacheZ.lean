/-
  The walk of CacheCharges.
-/
import Derived.Test.YtafdgncjfiiekaaCacheY
import Derived.Test.YtafdgncjfiiekaaMapE
namespace Go.Proofs.Ytafdgncjfiiekaa
open Go.RowKit
set_option linter.unusedVariables false
set_option linter.unusedSimpArgs false

open Classical in
/-- The map 'was' behind the blocks M. -/
noncomputable def wasF (M : List Node) : Value → Option Value := fun k => if ∃ x ∈ M, k = keyV x.file x.blk then some (.int .i64 1) else none
theorem wasF_nil : wasF [] = fun _ => none := by funext k; simp [wasF]
theorem wasF_cons (M : List Node) (y : Node) : upd (wasF M) (keyV y.file y.blk) (some (.int .i64 1)) = wasF (y :: M) := by
  funext k
  by_cases h : k = keyV y.file y.blk
  · subst h; rw [upd_same]; simp [wasF]
  · rw [upd_other _ _ h]
    unfold wasF
    by_cases hm : ∃ x ∈ M, k = keyV x.file x.blk
    · obtain ⟨x, hx, e⟩ := hm
      rw [if_pos ⟨x, hx, e⟩, if_pos ⟨x, List.mem_cons_of_mem _ hx, e⟩]
    · rw [if_neg hm, if_neg]
      rintro ⟨x, hx, e⟩
      rcases List.mem_cons.1 hx with rfl | hx
      · exact h e
      · exact hm ⟨x, hx, e⟩
theorem wasF_not {M : List Node} {a b : Int} (h : ∀ x ∈ M, ¬ (x.file = a ∧ x.blk = b)) : wasF M (keyV a b) = none := by
  unfold wasF
  rw [if_neg]
  rintro ⟨x, hx, e⟩
  obtain ⟨e1, e2⟩ := keyV_inj e
  exact h x hx ⟨e1.symm, e2.symm⟩
theorem wasF_yes {M : List Node} {x : Node} (h : x ∈ M) : wasF M (keyV x.file x.blk) = some (.int .i64 1) := by
  unfold wasF
  rw [if_pos ⟨x, h, rfl⟩]
theorem Both.chg {S : Nat → Prop} {w w1 : World} {c g m r rb : Nat} {v : Value} {L : List Node} {B : Bud} (h : Both w c g m r rb v L B) (hc : Chg S w w1) (hS : ∀ k, BFoot c g m r rb v L k → ¬ S k) : Both w1 c g m r rb v L B :=
  ⟨h.ca.chg hc fun k hk => hS k (.inl hk), h.ra.chg hc fun k hk => hS k (.inr hk)⟩
/-- What stands at the head of a round. -/
def Charged (w wr : World) (c g m r rb md : Nat) (l : Int) (p : Nat) : Prop :=
  ∃ v L B, Both wr c g m r rb v L B ∧ (∀ k, BFoot c g m r rb v L k → w.heap.size ≤ k ∧ k ≠ md) ∧ Chg (fun _ => False) w wr ∧ Pins p L ∧ B.l = max 0 (min l 1099511627776) ∧ w.heap.size ≤ md ∧
    ∃ nd fd, MapAt Try.prog 48 wr md nd fd ∧ ∀ x ∈ L, fd (keyV x.file x.blk) = some (.string x.data)
theorem zero_int (w : World) : (zeroValue 3).run Try.prog w = .ok (.int .i64 0) w := by kernel_rfl
theorem zero_str (w : World) : (zeroValue 9).run Try.prog w = .ok (.string ⟨#[]⟩) w := by kernel_rfl
theorem Distinct.mid {A M : List Node} {y : Node} (h : Distinct (A ++ y :: M)) : ∀ x ∈ M, ¬ (x.file = y.file ∧ x.blk = y.blk) := by
  unfold Distinct at h
  rw [List.pairwise_append] at h
  have h2 := h.2.1
  rw [List.pairwise_cons] at h2
  exact fun x hx e => h2.1 x hx ⟨e.1.symm, e.2.symm⟩

set_option maxRecDepth 100000 in
set_option maxHeartbeats 4000000 in
theorem cache_charges (l : Int) (A : Option Addr) (n c : Nat) (D F K N : Nat → Int) (S : Nat → ByteArray) (hF : ∀ i, In64 (F i)) (hK : ∀ i, In64 (K i)) (hN : ∀ i, In64 (N i)) (hS : ∀ i, (S i).size ≤ 140737488355328) (w : World) (hn : n ≤ 9223372036854775807) (hnc : n ≤ c)
    (hs : Rec w w.heap.size 5 A n (actRow D F K N S)) :
    Calls Try.prog 12 #[.int .i64 l, .slice A n c] w fun e w' => e = .returned (.bool true) ∧ Chg (fun _ => False) w w' := by
  have HR := Lib.hid hs
  have HF := Lib.hid hF
  have HK := Lib.hid hK
  have HN := Lib.hid hN
  have HS := Lib.hid hS
  clear hs hF hK hN hS
  have hm1 : ∀ w : World, (Instr.makeMap 68 none).run Try.prog w = .ok (.map (some w.heap.size)) (w.alloc (.map #[] 0)) := fun w => run_makeMap 68 w
  have hm2 : ∀ w : World, (Instr.makeMap 69 none).run Try.prog w = .ok (.map (some w.heap.size)) (w.alloc (.map #[] 0)) := fun w => run_makeMap 69 w
  go_enter Try.func12, Try.ntmps12
  go_wp2_with fail
  refine (bud_new l w).mono ?_
  rintro e w1 ⟨rfl, hb1, hs1, hc1⟩
  have HS1 := Lib.hid hs1
  clear hs1
  go_wp2_with fail
  refine (cache_new w.heap.size (Bud.start l) rfl w1 hb1).mono ?_
  rintro e w2 ⟨rfl, h2, hc2, hs2⟩
  rw [HS1.out] at h2 ⊢
  have hcw2 := hc1.then hc2
  have hs2' : w2.heap.size = w.heap.size + 3 := by rw [hs2, HS1.out]
  have HS2 := Lib.hid hs2'
  clear hs2 hc1 hc2 hb1 hs2'
  go_wp2_with fail
  refine (rbud_new l w2).mono ?_
  rintro e w3 ⟨rfl, hb3, hs3, hc3⟩
  have h3 := h2.same hc3
  have hcw3 := hcw2.then hc3
  rw [HS2.out] at hb3 hs3 ⊢
  have HS3 := Lib.hid hs3
  have H3 := Lib.hid h3
  have HB3 := Lib.hid hb3
  have HCW3 := Lib.hid hcw3
  clear hs3 h3 hb3 hcw2 hcw3 hc3 h2
  have hwork : Charged w ((w3.alloc (.cells #[.slice none 0 0, .pointer (some ⟨w.heap.size + 3, 0, none⟩)] 65)).alloc (.map #[] 0)) (w.heap.size + 1 + 1) w.heap.size (w.heap.size + 1) w3.heap.size (w.heap.size + 3) (w3.heap.size + 1) l 0 := by
    have hsz := HS3.out
    have h4 : Both (w3.alloc (.cells #[.slice none 0 0, .pointer (some ⟨w.heap.size + 3, 0, none⟩)] 65)) (w.heap.size + 1 + 1) w.heap.size (w.heap.size + 1) w3.heap.size (w.heap.size + 3) (.slice none 0 0) [] (Bud.start l) :=
      both_start (H3.out.same (by ((repeat (first | exact Chg.refl _ _ | assumption | refine Chg.drewN ?_ _ | refine Chg.drew ?_ | refine Chg.alloc ?_ _ | refine Chg.setCell ?_ (by simp) _))))) (HB3.out.chg (S := fun _ => False) (by ((repeat (first | exact Chg.refl _ _ | assumption | refine Chg.drewN ?_ _ | refine Chg.drew ?_ | refine Chg.alloc ?_ _ | refine Chg.setCell ?_ (by simp) _)))) (by simp)) (Blk.new w3 _ _)
    have hmap := MapAt.new Try.prog 48 (w3.alloc (.cells #[.slice none 0 0, .pointer (some ⟨w.heap.size + 3, 0, none⟩)] 65))
    rw [show (w3.alloc (.cells #[.slice none 0 0, .pointer (some ⟨w.heap.size + 3, 0, none⟩)] 65)).heap.size = w3.heap.size + 1 from by simp] at hmap
    refine ⟨_, _, _, h4.same (by ((repeat (first | exact Chg.refl _ _ | assumption | refine Chg.drewN ?_ _ | refine Chg.drew ?_ | refine Chg.alloc ?_ _ | refine Chg.setCell ?_ (by simp) _)))), ?_, (HCW3.out.alloc _).alloc _, by simp [Pins], rfl, by omega, _, _, hmap, by simp⟩
    rintro k (e | e)
    · have := foot_ge (B := w.heap.size) (by omega) (Nat.le_refl _) (by omega) (by simp) e
      refine ⟨this, ?_⟩
      rcases e with e | e | e | ⟨y, hy, _⟩
      · omega
      · omega
      · omega
      · simp at hy
    · rcases e with e | e | e
      · exact ⟨by omega, by omega⟩
      · exact ⟨by omega, by omega⟩
      · simp [Value.ownBlock] at e
  have HW := Lib.hid hwork
  clear hwork
  go_wp2_with fail
  all_goals
    generalize w.heap.size + 1 + 1 = cc at *
    generalize w.heap.size + 1 = mm at *
    generalize w.heap.size + 3 = rr at *
    generalize w3.heap.size + 1 = md at *
    generalize w3.heap.size = rc at *
    clear HS1 HS2 HS3 H3 HB3 HCW3
  all_goals (try simp only [show max (60 : Int) 0 = 60 from rfl])
  all_goals obtain ⟨q, hq1, hq2, hq3⟩ : ∃ q : Nat, q ≤ n ∧ q ≤ 60 ∧ (q = n ∨ q = 60) := ⟨min n 60, by omega, by omega, by omega⟩
  all_goals
    go_loopw [33] (fun i wr => ∃ k : Nat, k ≤ q ∧ i = .int .i64 k ∧ Charged w wr cc w.heap.size mm rc rr md l k) (fun i _ => q - (intOf i).toNat)
    case atStart => exact ⟨0, by omega, rfl, HW.out⟩
    case round =>
      obtain ⟨k, hk, rfl, v, L, B, hB, hge, hcc, hp, hbl, hmdw, nd, fd, hmd, hfd⟩ := hrel
      by_cases hlt : k < q
      · obtain ⟨b, off, rfl, hbB, hcell⟩ := HR.out (by omega)
        have x0 := (hcc.cell (p := ⟨b, _, none⟩) hbB (by simp)).trans (hcell k (by omega) 0 (by omega))
        have x1 := (hcc.cell (p := ⟨b, _, none⟩) hbB (by simp)).trans (hcell k (by omega) 1 (by omega))
        have x2 := (hcc.cell (p := ⟨b, _, none⟩) hbB (by simp)).trans (hcell k (by omega) 2 (by omega))
        have x3 := (hcc.cell (p := ⟨b, _, none⟩) hbB (by simp)).trans (hcell k (by omega) 3 (by omega))
        have x4 := (hcc.cell (p := ⟨b, _, none⟩) hbB (by simp)).trans (hcell k (by omega) 4 (by omega))
        simp only [Nat.add_zero, actRow] at x0 x1 x2 x3 x4
        have hk0 : (0 : Int) ≤ (k : Int) := by omega
        have hk1 : (k : Int) < (n : Int) := by omega
        have hk2 : (k : Int) < 60 := by omega
        have hlts := hB.lts
        have HQ := Lib.hid hq3
        have HB := Lib.hid hB
        have HGE := Lib.hid hge
        have HCC := Lib.hid hcc
        have HP := Lib.hid hp
        have HBL := Lib.hid hbl
        have HMD := Lib.hid hmd
        have HFD := Lib.hid hfd
        have HLT := Lib.hid hlts
        have hmdl := hmd.lt
        have hmi := hm2 ((wr.alloc (.cells #[.int .i64 (D k), .int .i64 (F k), .int .i64 (K k), .string (S k), .int .i64 (N k)] 46)).alloc (.cells #[.int .i64 (F k), .int .i64 (K k)] 48))
        clear hcell HR hB hge hcc hp hq3 hbl hmd hfd hlts hm1 hm2
        go_wp2_with fail
        clear x0 x1 x2 x3 x4 hmi
        obtain ⟨wo, rfl⟩ : ∃ wo, wo = wr := ⟨_, rfl⟩
        obtain ⟨W1, hW1⟩ : ∃ W1, W1 = ((wo.alloc (.cells #[.int .i64 (D k), .int .i64 (F k), .int .i64 (K k), .string (S k), .int .i64 (N k)] 46)).alloc (.cells #[.int .i64 (F k), .int .i64 (K k)] 48)).alloc (.map #[] 0) := ⟨_, rfl⟩
        have hc1 : Chg (fun _ => False) wo W1 := by rw [hW1]; ((repeat (first | exact Chg.refl _ _ | assumption | refine Chg.drewN ?_ _ | refine Chg.drew ?_ | refine Chg.alloc ?_ _ | refine Chg.setCell ?_ (by simp) _)))
        have hact1 : Blk W1 wo.heap.size 46 #[.int .i64 (D k), .int .i64 (F k), .int .i64 (K k), .string (S k), .int .i64 (N k)] := by
          rw [hW1]
          exact ((Blk.new wo _ _).alloc _).alloc _
        have hkey1 : Blk W1 (wo.heap.size + 1) 48 #[.int .i64 (F k), .int .i64 (K k)] := by
          rw [hW1]
          have := (Blk.new (wo.alloc (.cells #[.int .i64 (D k), .int .i64 (F k), .int .i64 (K k), .string (S k), .int .i64 (N k)] 46)) 48 #[.int .i64 (F k), .int .i64 (K k)]).alloc (.map #[] 0)
          simpa using this
        have hwas1 : MapAt Try.prog 48 W1 (wo.heap.size + 1 + 1) 0 (wasF []) := by
          rw [hW1, wasF_nil]
          have := MapAt.new Try.prog 48 ((wo.alloc (.cells #[.int .i64 (D k), .int .i64 (F k), .int .i64 (K k), .string (S k), .int .i64 (N k)] 46)).alloc (.cells #[.int .i64 (F k), .int .i64 (K k)] 48))
          simpa using this
        have hB1 := HB.out.same hc1
        have hmd1 := HMD.out.chg hc1 (by simp)
        have hcw1 := HCC.out.then hc1
        have hs1 : W1.heap.size = wo.heap.size + 3 := by rw [hW1]; simp
        rw [← hW1]
        have HS1 := Lib.hid hs1
        have HACT1 := Lib.hid hact1
        have HKEY1 := Lib.hid hkey1
        have HWAS1 := Lib.hid hwas1
        have HB1 := Lib.hid hB1
        have HMD1 := Lib.hid hmd1
        have HCW1 := Lib.hid hcw1
        have HC1 := Lib.hid hc1
        clear hW1 hc1 hact1 hkey1 hwas1 hB1 hmd1 hcw1 hs1 HMD HCC
        have hkp := cache_kept cc w.heap.size mm L B W1 HB1.out.ca
        refine hkp.mono ?_
        rintro e w2 ⟨kv, rfl, hown, hc2⟩
        obtain ⟨ka, kcap, rfl, hkn, hread⟩ := keys_form hown
        have hwas2 := HWAS1.out.chg hc2 (by simp)
        have HRD := Lib.hid hread
        have HC2 := Lib.hid hc2
        have HWAS2 := Lib.hid hwas2
        clear hkp hown hread hc2 hwas2 HWAS1
        go_wp2_with fail
        go_loopw [46] (fun i w3 => ∃ A M, L = A ++ M ∧ i = .int .i64 M.length ∧ MapAt Try.prog 48 w3 (wo.heap.size + 1 + 1) M.length (wasF M) ∧ Chg (fun k => k = wo.heap.size + 1 + 1) w2 w3) (fun i _ => L.length - (intOf i).toNat)
        case atStart => exact ⟨L, [], by simp, rfl, HWAS2.out, Chg.refl _ _⟩
        case round =>
          obtain ⟨A, M, hL, rfl, hwas, hcm⟩ := hrel
          rcases List.eq_nil_or_concat A with rfl | ⟨ys, y, rfl⟩
          · have hge : ¬ ((M.length : Int) < (L.length : Int)) := by rw [hL]; simp
            rw [List.nil_append] at hL
            rw [← hL] at hwas
            have HWAS := Lib.hid hwas
            have HCM := Lib.hid hcm
            clear hL hwas hcm HWAS2
            have hact3 := ((HACT1.out.chg HC2.out (by simp)).chg HCM.out (fun (e : wo.heap.size = wo.heap.size + 1 + 1) => by omega))
            have y0 := hact3.cell 0
            have y1 := hact3.cell 1
            have y2 := hact3.cell 2
            have y3 := hact3.cell 3
            have y4 := hact3.cell 4
            simp at y0 y1 y2 y3 y4
            clear hact3
            go_wp2_with fail
            obtain ⟨w4, rfl⟩ : ∃ w4, w4 = wr := ⟨_, rfl⟩
            have hft4 : ∀ j, BFoot cc w.heap.size mm rc rr v L j → j < wo.heap.size := HLT.out
            have hB4 : Both w4 cc w.heap.size mm rc rr v L B := (HB1.out.same HC2.out).chg HCM.out (fun j hj e => by have := hft4 j hj; omega)
            have hcw4 : Chg (fun _ => False) w w4 := (HCW1.out.then HC2.out).trans HCM.out (fun j hj (e : j = wo.heap.size + 1 + 1) => by have := HCW1.out.size; have := HS1.out; have := (HGE.out w.heap.size (.inl (.inr (.inl rfl)))).1; have := hft4 w.heap.size (.inl (.inr (.inl rfl))); omega)
            have hmd4 := (HMD1.out.chg HC2.out (by simp)).chg HCM.out (fun (e : md = wo.heap.size + 1 + 1) => by omega)
            have hact4 := (HACT1.out.chg HC2.out (by simp)).chg HCM.out (fun (e : wo.heap.size = wo.heap.size + 1 + 1) => by omega)
            have hkey4 := (HKEY1.out.chg HC2.out (by simp)).chg HCM.out (fun (e : wo.heap.size + 1 = wo.heap.size + 1 + 1) => by omega)
            have hwl4 : wo.heap.size + 1 + 1 < w4.heap.size := HWAS.out.lt
            refine (lc_act cc w.heap.size mm rc rr v L B (D k) (F k) (K k) (N k) (S k) k (HF.out k) (HK.out k) (HN.out k) (HS.out k) HP.out (by omega) w4 hB4).mono ?_
            rintro e w5 ⟨rfl, L', B', ⟨v', hB5, hc5, hv5⟩, hp5, hl5, hcm5⟩
            have hmd5 := hmd4.chg hc5 (fun e => (HGE.out md e).2 rfl)
            have hwas5 := HWAS.out.chg hc5 (fun e => by have := hft4 _ e; omega)
            have hact5 := hact4.chg hc5 (fun e => by have := hft4 _ e; omega)
            have hkey5 := hkey4.chg hc5 (fun e => by have := hft4 _ e; omega)
            have hcw5 : Chg (fun _ => False) w w5 := hcw4.trans hc5 (fun j hj e => by have := (HGE.out j e).1; omega)
            have hge5 : ∀ j, BFoot cc w.heap.size mm rc rr v' L' j → w.heap.size ≤ j ∧ j ≠ md := fun j hj => by
              have h0 := hcw4.size
              by_cases hjl : j < w4.heap.size
              · exact HGE.out j (hv5 j hjl hj)
              · exact ⟨by omega, by omega⟩
            have hs5 := hc5.size
            have HB5 := Lib.hid hB5
            have HMD5 := Lib.hid hmd5
            have HWAS5 := Lib.hid hwas5
            have HACT5 := Lib.hid hact5
            have HKEY5 := Lib.hid hkey5
            have HCW5 := Lib.hid hcw5
            have HGE5 := Lib.hid hge5
            have HP5 := Lib.hid hp5
            have HL5 := Lib.hid hl5
            have HCM5 := Lib.hid hcm5
            clear hft4 hB4 hcw4 hmd4 hact4 hkey4 hB5 hc5 hv5 hp5 hl5 hcm5 hmd5 hwas5 hact5 hkey5 hcw5 hge5 y0 y1 y2 y3 y4 HCM HWAS HACT1 HKEY1 HMD1 HCW1 HC1 HC2 HRD
            go_wp2_with fail
            refine (cache_kept cc w.heap.size mm L' B' w5 HB5.out.ca).mono ?_
            rintro e w6 ⟨kv2, rfl, hown2, hc6⟩
            obtain ⟨ka2, kcap2, rfl, hkn2, hread2⟩ := keys_form hown2
            have hs6 := hc6.size
            have HRD2 := Lib.hid hread2
            have HC6 := Lib.hid hc6
            clear hown2 hread2 hc6
            obtain ⟨t1, t2, t3, t4⟩ := HB5.out.ca.tot_le
            have hu5 : B'.u ≤ max 0 (min l 1099511627776) := by rw [← HBL.out, ← HL5.out]; exact t3
            have htl : total L' ≤ 1099511627776 := by omega
            have hof : B'.of 1 = total L' := t1
            have HOF := Lib.hid hof
            clear t1 t2 t3 t4 hof
            go_wp2_with fail
            go_loopw [15, 65] (fun cst i w7 => ∃ A M, L' = A ++ M ∧ i = .int .i64 M.length ∧ cst = .int .i64 (total M) ∧ ∃ nd fd, MapAt Try.prog 48 w7 md nd fd ∧ (∀ x ∈ M, fd (keyV x.file x.blk) = some (.string x.data)) ∧ (∀ x ∈ L', hasKey L x.file x.blk = true → fd (keyV x.file x.blk) = some (.string x.data)) ∧ Chg (fun j => j = md) w6 w7) (fun _ i _ => L'.length - (intOf i).toNat)
            case atStart =>
              refine ⟨L', [], by simp, rfl, rfl, nd, fd, HMD5.out.chg HC6.out (by simp), by simp, fun x hx hh => ?_, Chg.refl _ _⟩
              obtain ⟨y, hy, e1, e2⟩ := hasKey_true hh
              rcases HCM5.out x hx with ⟨z, hz, e3, e4, e5⟩ | ⟨_, _, _, e6⟩
              · rw [← e3, ← e4, ← e5]; exact HFD.out z hz
              · rename_i e7 e8 _
                rw [e7, e8, e6] at hh; cases hh
            case round =>
              obtain ⟨A, M, hL, rfl, rfl, nd2, fd2, hmd7, hM, hold, hc7⟩ := hrel
              have htm : 0 ≤ total M ∧ total M ≤ total L' := by
                have := total_nonneg M
                have := total_nonneg A
                rw [hL, total_app]; omega
              rcases List.eq_nil_or_concat A with rfl | ⟨ys, y, rfl⟩
              · have hge : ¬ ((M.length : Int) < (L'.length : Int)) := by rw [hL]; simp
                rw [List.nil_append] at hL
                have hfin : Charged w wr cc w.heap.size mm rc rr md l (k + 1) := by
                  refine ⟨v', L', B', (HB5.out.same HC6.out).chg hc7 (fun j hj e => (HGE5.out j hj).2 e), HGE5.out, (HCW5.out.then HC6.out).trans hc7 (fun j hj (e : j = md) => ?_), HP5.out, by rw [HL5.out, HBL.out], hmdw, nd2, fd2, hmd7, by rw [hL]; exact hM⟩
                  omega
                have HFIN := Lib.hid hfin
                have hbud7 := (HB5.out.ca.bud.chg HC6.out (by simp)).chg hc7 (fun (e : w.heap.size = md) => (HGE5.out w.heap.size (.inl (.inr (.inl rfl)))).2 e)
                have hof7 := bud_of w.heap.size B' 1 wr hbud7
                rw [HOF.out, hL] at hof7
                have hus7 := bud_used w.heap.size B' wr hbud7
                have HOF7 := Lib.hid hof7
                have HUS7 := Lib.hid hus7
                clear hL hM hold hmd7 hc7 htm hfin hbud7 hof7 hus7
                go_wp2_with fail
                refine HOF7.out.mono ?_
                rintro e w8 ⟨rfl, rfl⟩
                go_wp2_with fail
                refine HUS7.out.mono ?_
                rintro e w8 ⟨rfl, rfl⟩
                go_wp2_with fail
                all_goals exact ⟨⟨k + 1, by omega, by go_num, HFIN.out⟩, by simp [intOf]; omega⟩
              · rw [List.concat_eq_append, List.append_assoc, List.singleton_append] at hL
                have hll : L'.length = ys.length + (M.length + 1) := by rw [hL]; simp
                have hlt2 : (M.length : Int) < (L'.length : Int) := by omega
                have hge0 : (0 : Int) ≤ (M.length : Int) := by omega
                obtain ⟨bk, rfl, hb1, hb2, hbt, hcell⟩ := HRD2.out (by omega)
                have hrev : L'.reverse = M.reverse ++ y :: ys.reverse := by rw [hL]; simp
                obtain ⟨k0, k1⟩ := keysFlat_at M.reverse ys.reverse y
                rw [← hrev, List.length_reverse] at k0 k1
                have hbne : ¬ bk = md := by omega
                have z0 := (hc7.cell (p := ⟨bk, _, none⟩) hb2 hbne).trans (hcell _ _ k0)
                have z1 := (hc7.cell (p := ⟨bk, _, none⟩) hb2 hbne).trans (hcell _ _ k1)
                have hs7 := hc7.size
                have hact7 := (HACT5.out.chg HC6.out (by simp)).chg hc7 (fun (e : wo.heap.size = md) => by omega)
                have hkey7 := (HKEY5.out.chg HC6.out (by simp)).chg hc7 (fun (e : wo.heap.size + 1 = md) => by omega)
                have hwas7 := (HWAS5.out.chg HC6.out (by simp)).chg hc7 (fun (e : wo.heap.size + 1 + 1 = md) => by omega)
                have y3 := hact7.cell 3
                have q0 := hkey7.cell 0
                have q1 := hkey7.cell 1
                simp at y3 q0 q1
                have hyl : y ∈ L' := by rw [hL]; simp
                have hyg := HB5.out.ca.good y hyl
                obtain ⟨lk, hlk⟩ := key_of y.file y.blk hyg.file hyg.blk
                have hdis := HB5.out.ca.keys
                rw [hL] at hdis
                have hdm := Distinct.mid hdis
                have htot : total L' = total ys + (costOf y + total M) := by rw [hL, total_app]; rfl
                have hty := total_nonneg ys
                have hcy := costOf_pos y
                have hcyd : costOf y = 64 + (y.data.size : Int) := rfl
                have hbl1 : bk < wr.heap.size := by omega
                have hwa7 : wo.heap.size < wr.heap.size := hact7.lt
                have hwk7 : wo.heap.size + 1 < wr.heap.size := hkey7.lt
                have hL2 : L' = ys ++ (y :: M) := hL
                have HL := Lib.hid hL2
                have hm7l := hmd7.lt
                have hyd : y.data.size ≤ 9223372036854775000 := by have := hyg.data; omega
                have hsum : 0 ≤ total M + (64 + (y.data.size : Int)) ∧ total M + (64 + (y.data.size : Int)) ≤ 1099511627776 := by omega
                obtain ⟨hsum0, hsum1⟩ := hsum
                clear hL hL2 hll hcell hrev k0 k1 hact7 hkey7 hdis htot hyg hs7
                have hstep : ∀ (fd3 : Value → Option Value), fd3 (keyV y.file y.blk) = some (.string y.data) → (∀ x ∈ M, fd3 (keyV x.file x.blk) = some (.string x.data)) → ∀ x ∈ y :: M, fd3 (keyV x.file x.blk) = some (.string x.data) := by
                  intro fd3 h1 h2 x hx
                  rcases List.mem_cons.1 hx with rfl | hx
                  · exact h1
                  · exact h2 x hx
                have HSTEP := Lib.hid hstep
                have HM := Lib.hid hM
                have HOLD := Lib.hid hold
                have HDM := Lib.hid hdm
                have HC7 := Lib.hid hc7
                have hmd8 := hmd7.chg (S := fun _ => False) (w' := wr.alloc (.cells #[.int .i64 y.file, .int .i64 y.blk] 48)) (by ((repeat (first | exact Chg.refl _ _ | assumption | refine Chg.drewN ?_ _ | refine Chg.drew ?_ | refine Chg.alloc ?_ _ | refine Chg.setCell ?_ (by simp) _)))) (by simp)
                have hwas8 := hwas7.chg (S := fun _ => False) (w' := wr.alloc (.cells #[.int .i64 y.file, .int .i64 y.blk] 48)) (by ((repeat (first | exact Chg.refl _ _ | assumption | refine Chg.drewN ?_ _ | refine Chg.drew ?_ | refine Chg.alloc ?_ _ | refine Chg.setCell ?_ (by simp) _)))) (by simp)
                have hc8 : Chg (fun j => j = md) w6 (wr.alloc (.cells #[.int .i64 y.file, .int .i64 y.blk] 48)) := hc7.alloc _
                have HC8 := Lib.hid hc8
                clear hstep hM hold hdm hc7 hmd7 hwas7 hc8 hcy
                by_cases hnew : (y.file = F k ∧ y.blk = K k) ∧ hasKey L (F k) (K k) = false
                · obtain ⟨⟨e1, e2⟩, hno⟩ := hnew
                  have hyS : y.data = S k := by
                    rcases HCM5.out y hyl with ⟨z, hz, e3, e4, e5⟩ | ⟨_, _, e5, _⟩
                    · exact absurd ⟨e3.trans e1, e4.trans e2⟩ (hasKey_false hno z hz)
                    · exact e5
                  have hnone : wasF L (keyV y.file y.blk) = none := by rw [e1, e2]; exact wasF_not (hasKey_false hno)
                  have hlw := hwas8.look key_law Try.underlying69 (zero_int _) hlk false
                  rw [hnone] at hlw
                  have hlw' : (Instr.lookup 69 (.map (some (wo.heap.size + 1 + 1))) (.agg #[.int .i64 y.file, .int .i64 y.blk]) false).run Try.prog (wr.alloc (.cells #[.int .i64 y.file, .int .i64 y.blk] 48)) = .ok (.int .i64 0) (wr.alloc (.cells #[.int .i64 y.file, .int .i64 y.blk] 48)) := hlw
                  obtain ⟨w9, hup, hmd9, hc9, hs9⟩ := hmd8.store key_law Try.underlying68 hlk (.string (S k))
                  have hup' : (Instr.mapUpdate 68 (.map (some md)) (.agg #[.int .i64 y.file, .int .i64 y.blk]) (.string (S k))).run Try.prog (wr.alloc (.cells #[.int .i64 y.file, .int .i64 y.blk] 48)) = .ok () w9 := hup
                  have hld := hmd9.look key_law Try.underlying68 (zero_str _) hlk false
                  rw [upd_same] at hld
                  have hld' : (Instr.lookup 68 (.map (some md)) (.agg #[.int .i64 y.file, .int .i64 y.blk]) false).run Try.prog w9 = .ok (.string (S k)) w9 := hld
                  have hkk : ∀ x : Node, ¬ (x.file = y.file ∧ x.blk = y.blk) → keyV x.file x.blk ≠ keyV y.file y.blk := fun x hx e => by
                    obtain ⟨e1, e2⟩ := keyV_inj e
                    exact hx ⟨e1, e2⟩
                  have hrel : ∃ nd fd, MapAt Try.prog 48 w9 md nd fd ∧ (∀ x ∈ y :: M, fd (keyV x.file x.blk) = some (.string x.data)) ∧ (∀ x ∈ L', hasKey L x.file x.blk = true → fd (keyV x.file x.blk) = some (.string x.data)) ∧ Chg (fun j => j = md) w6 w9 := by
                    refine ⟨_, _, hmd9, HSTEP.out _ (by rw [upd_same, hyS]) (fun x hx => ?_), fun x hx hh => ?_, HC8.out.then hc9⟩
                    · rw [upd_other _ _ (hkk x (HDM.out x hx))]; exact HM.out x hx
                    · rw [upd_other _ _ (hkk x (fun e => ?_))]
                      · exact HOLD.out x hx hh
                      · rw [e.1, e.2, e1, e2, hno] at hh; cases hh
                  have c9 : ∀ o, w9.cell? ⟨wr.heap.size, o, none⟩ = (wr.alloc (.cells #[.int .i64 y.file, .int .i64 y.blk] 48)).cell? ⟨wr.heap.size, o, none⟩ := fun o => hc9.cell (p := ⟨wr.heap.size, o, none⟩) (by simp) (fun (e : wr.heap.size = md) => by omega)
                  have g0 : w9.cell? ⟨wr.heap.size, 0, none⟩ = some (.int .i64 y.file) := (c9 0).trans ((Blk.new wr _ _).cell 0)
                  have g1 : w9.cell? ⟨wr.heap.size, 1, none⟩ = some (.int .i64 y.blk) := (c9 1).trans ((Blk.new wr _ _).cell 1)
                  have hfin : total M + (64 + ((S k).size : Int)) = total (y :: M) := by rw [← hyS]; simp only [total]; omega
                  have hsk : (S k).size ≤ 9223372036854775000 := by have := HS.out k; omega
                  rw [hyS] at hsum0 hsum1
                  have HREL := Lib.hid hrel
                  have HFIN := Lib.hid hfin
                  rw [e1] at z0 g0
                  rw [e2] at z1 g1
                  rw [e1, e2] at hlw' hup' hld'
                  clear hrel hfin hc9 c9 hld hup hlw hmd9 hs9 hkk hno hnone hyS e1 e2 hcyd hlk hmd8 hwas8
                  go_wp2_with fail
                  refine (cache_cost (S k) hsk _).mono ?_
                  rintro e w10 ⟨rfl, rfl⟩
                  go_wp2_with fail
                  refine ⟨⟨ys, y :: M, HL.out, by simp, by rw [HFIN.out], HREL.out⟩, ?_⟩
                  simp [intOf]; omega
                · have hkeep : fd2 (keyV y.file y.blk) = some (.string y.data) := by
                    refine HOLD.out y hyl ?_
                    rcases HCM5.out y hyl with ⟨z, hz, e3, e4, _⟩ | ⟨e3, e4, _, e6⟩
                    · unfold hasKey
                      rw [List.any_eq_true]
                      exact ⟨z, hz, by simp [e3, e4]⟩
                    · exact absurd ⟨⟨e3, e4⟩, e6⟩ hnew
                  have hrel : ∃ nd fd, MapAt Try.prog 48 (wr.alloc (.cells #[.int .i64 y.file, .int .i64 y.blk] 48)) md nd fd ∧ (∀ x ∈ y :: M, fd (keyV x.file x.blk) = some (.string x.data)) ∧ (∀ x ∈ L', hasKey L x.file x.blk = true → fd (keyV x.file x.blk) = some (.string x.data)) ∧ Chg (fun j => j = md) w6 (wr.alloc (.cells #[.int .i64 y.file, .int .i64 y.blk] 48)) :=
                    ⟨_, _, hmd8, HSTEP.out _ hkeep HM.out, HOLD.out, HC8.out⟩
                  have hld := hmd8.look key_law Try.underlying68 (zero_str _) hlk false
                  rw [hkeep] at hld
                  have hld' : (Instr.lookup 68 (.map (some md)) (.agg #[.int .i64 y.file, .int .i64 y.blk]) false).run Try.prog (wr.alloc (.cells #[.int .i64 y.file, .int .i64 y.blk] 48)) = .ok (.string y.data) (wr.alloc (.cells #[.int .i64 y.file, .int .i64 y.blk] 48)) := hld
                  have hfin : total M + (64 + (y.data.size : Int)) = total (y :: M) := by simp only [total]; omega
                  have hwy : hasKey L y.file y.blk = true → (Instr.lookup 69 (.map (some (wo.heap.size + 1 + 1))) (.agg #[.int .i64 y.file, .int .i64 y.blk]) false).run Try.prog (wr.alloc (.cells #[.int .i64 y.file, .int .i64 y.blk] 48)) = .ok (.int .i64 1) (wr.alloc (.cells #[.int .i64 y.file, .int .i64 y.blk] 48)) := fun hh => by
                    obtain ⟨z, hz, e3, e4⟩ := hasKey_true hh
                    have hlw := hwas8.look key_law Try.underlying69 (zero_int _) hlk false
                    have hyes := wasF_yes hz
                    rw [e3, e4] at hyes
                    rw [hyes] at hlw
                    exact hlw
                  have HREL := Lib.hid hrel
                  have HFIN := Lib.hid hfin
                  have HWY := Lib.hid hwy
                  clear hrel hfin hld hkeep hwy hlk hmd8 hwas8 hcyd
                  by_cases e1 : y.file = F k
                  · by_cases e2 : y.blk = K k
                    · have hlw' := HWY.out (by
                        rw [e1, e2]
                        cases hh : hasKey L (F k) (K k) with
                        | true => rfl
                        | false => exact absurd ⟨⟨e1, e2⟩, hh⟩ hnew)
                      rw [e1] at z0
                      rw [e2] at z1
                      rw [e1, e2] at hlw' hld'
                      have HE := Lib.hid (And.intro e1 e2)
                      rw [e1, e2] at HREL
                      clear e1 e2 hnew
                      go_wp2_with fail
                      refine (cache_cost y.data hyd _).mono ?_
                      rintro e w10 ⟨rfl, rfl⟩
                      go_wp2_with fail
                      refine ⟨⟨ys, y :: M, HL.out, by simp, by rw [HFIN.out], HREL.out⟩, ?_⟩
                      simp [intOf]; omega
                    · rw [e1] at z0 hld' HREL
                      clear e1 hnew
                      go_wp2_with fail
                      refine (cache_cost y.data hyd _).mono ?_
                      rintro e w10 ⟨rfl, rfl⟩
                      go_wp2_with fail
                      refine ⟨⟨ys, y :: M, HL.out, by simp, by rw [HFIN.out], HREL.out⟩, ?_⟩
                      simp [intOf]; omega
                  · clear hnew
                    go_wp2_with fail
                    refine (cache_cost y.data hyd _).mono ?_
                    rintro e w10 ⟨rfl, rfl⟩
                    go_wp2_with fail
                    refine ⟨⟨ys, y :: M, HL.out, by simp, by rw [HFIN.out], HREL.out⟩, ?_⟩
                    simp [intOf]; omega
          · rw [List.concat_eq_append, List.append_assoc, List.singleton_append] at hL
            have hll : L.length = ys.length + (M.length + 1) := by rw [hL]; simp
            have hlt2 : (M.length : Int) < (L.length : Int) := by omega
            have hge0 : (0 : Int) ≤ (M.length : Int) := by omega
            obtain ⟨bk, rfl, hb1, hb2, hbt, hcell⟩ := HRD.out (by omega)
            have hrev : L.reverse = M.reverse ++ y :: ys.reverse := by rw [hL]; simp
            obtain ⟨k0, k1⟩ := keysFlat_at M.reverse ys.reverse y
            rw [← hrev, List.length_reverse] at k0 k1
            have hbne : bk ≠ wo.heap.size + 1 + 1 := by have := HS1.out; omega
            have z0 := (hcm.cell (p := ⟨bk, _, none⟩) hb2 hbne).trans (hcell _ _ k0)
            have z1 := (hcm.cell (p := ⟨bk, _, none⟩) hb2 hbne).trans (hcell _ _ k1)
            have hyl : y ∈ L := by rw [hL]; simp
            have hyg := HB1.out.ca.good y hyl
            obtain ⟨lk, hlk⟩ := key_of y.file y.blk hyg.file hyg.blk
            have hdis := HB1.out.ca.keys
            rw [hL] at hdis
            have hnone := wasF_not (M := M) (Distinct.mid hdis)
            have hbxl : wo.heap.size + 1 + 1 < wr.heap.size := hwas.lt
            obtain ⟨W4, hW4⟩ : ∃ W4, W4 = (wr.alloc (.cells #[.int .i64 y.file, .int .i64 y.blk] 48)).drew := ⟨_, rfl⟩
            have hc4 : Chg (fun _ => False) wr W4 := by rw [hW4]; ((repeat (first | exact Chg.refl _ _ | assumption | refine Chg.drewN ?_ _ | refine Chg.drew ?_ | refine Chg.alloc ?_ _ | refine Chg.setCell ?_ (by simp) _)))
            have hwas4 : MapAt Try.prog 48 W4 (wo.heap.size + 1 + 1) M.length (wasF M) := hwas.chg hc4 (by simp)
            have hlk4 := hwas4.look key_law Try.underlying69 (zero_int _) hlk false
            have hlk4' : (Instr.lookup 69 (.map (some (wo.heap.size + 1 + 1))) (.agg #[.int .i64 y.file, .int .i64 y.blk]) false).run Try.prog W4 = .ok (.int .i64 0) W4 := by
              rw [hnone] at hlk4
              exact hlk4
            obtain ⟨st, w5, hent, hc5, hs5, hwas5, hsto⟩ := hwas4.entry key_law Try.underlying69 (zero_int _) hlk hnone
            have hlk5 := hwas5.look key_law Try.underlying69 (zero_int _) hlk false
            rw [upd_same] at hlk5
            have hlk5' : (Instr.lookup 69 (.map (some (wo.heap.size + 1 + 1))) (.agg #[.int .i64 y.file, .int .i64 y.blk]) false).run Try.prog w5 = .ok (.int .i64 0) w5 := hlk5
            obtain ⟨w6, hst6, hwas6, hc6, hs6⟩ := hsto (.int .i64 1) w5 rfl
            rw [wasF_cons] at hwas6
            have hent' : (Instr.mapEntry 69 (.map (some (wo.heap.size + 1 + 1))) (.agg #[.int .i64 y.file, .int .i64 y.blk])).run Try.prog W4 = .ok (.tuple #[.int .i64 0, .int .i64 st]) w5 := hent
            have hst6' : (Instr.entryStore 69 (.map (some (wo.heap.size + 1 + 1))) (.int .i64 st) (.int .i64 1)).run Try.prog w5 = .ok () w6 := hst6
            have hcm6 : Chg (fun k => k = wo.heap.size + 1 + 1) w2 w6 := ((hcm.trans hc4 (by simp)).then hc5).then hc6
            have hL2 : L = ys ++ (y :: M) := hL
            have HL := Lib.hid hL2
            have HWAS6 := Lib.hid hwas6
            have HCM6 := Lib.hid hcm6
            rw [hW4] at hlk4' hent'
            clear hwas6 hcm6 hlk4 hlk5 hwas5 hent hst6 hc4 hc5 hc6 hs5 hs6 hwas4 hsto hlk hdis hnone hL hL2 hwas hcm hcell hrev k0 k1 hll hW4
            go_wp2_with fail
            go_region
            all_goals
              go_wp2_with fail
              refine ⟨⟨ys, y :: M, HL.out, by simp, HWAS6.out, HCM6.out⟩, ?_⟩
              simp [intOf]; omega
      · have HC := Lib.hid hcc
        clear hcc hB hge hp HR hbl hmd hfd
        have hge : ¬ ((k : Int) < (q : Int)) := by omega
        first
          | (have hqe : q = n := by omega
             have hge2 : ¬ ((k : Int) < (n : Int)) := by omega
             clear hq3 hqe
             go_wp2_with fail
             refine (cache_wakes _).mono ?_)
          | (have hge2 : ¬ ((k : Int) < 60) := by omega
             clear hq3
             go_wp2_with fail
             refine (cache_wakes _).mono ?_)
        rintro e w' ⟨rfl, hc⟩
        go_wp2_with fail
        go_ret
        exact ⟨rfl, HC.out.then hc⟩
end Go.Proofs.Ytafdgncjfiiekaa
