/-
  The law ManifestCleans returns true.
-/
import Derived.Test.YtahahginmgidjaaGreatDoorZMg46
import Derived.Test.YtahahginmgidjaaGreatDoorZVerL
import Derived.Deep.DeepCutAuto
import Derived.Deep.AppendSrc
import Derived.Deep.RegionLaw
namespace Go.Proofs.YtahahginmgidjaaGreatDoor
open Go.RowKit
set_option linter.unusedVariables false
set_option linter.unusedSimpArgs false

/-! ### A map that counts texts -/
def cntS (c : ByteArray → Nat) : Value → Option Value := fun v => match v with | .string x => if c x = 0 then none else some (.int .i64 (c x : Int)) | _ => none
def CntS (w : World) (b : Nat) (c : ByteArray → Nat) : Prop := ∃ n, MapAt Tryz.prog 9 w b n (cntS c)
theorem cntS_bump (c : ByteArray → Nat) (x : ByteArray) : upd (cntS c) (.string x) (some (.int .i64 ((c x : Int) + 1))) = cntS (fun y => if y = x then c y + 1 else c y) := by
  funext v
  by_cases h : v = .string x
  · subst h
    rw [upd_same]
    simp [cntS]
  · rw [upd_other _ _ h]
    cases v with
    | string y =>
      have : y ≠ x := fun e => h (by rw [e])
      simp [cntS, this]
    | _ => rfl
theorem cntS_getD (c : ByteArray → Nat) (x : ByteArray) : ((cntS c) (.string x)).getD (.int .i64 0) = .int .i64 (c x : Int) := by
  unfold cntS
  by_cases h : c x = 0
  · simp [h]
  · simp [h]
section
variable {w w' : World} {b : Nat} {c : ByteArray → Nat} {x : ByteArray}
theorem CntS.new (w : World) : CntS (w.alloc (.map #[] 0)) w.heap.size fun _ => 0 := by
  refine ⟨0, ?_⟩
  have : cntS (fun _ => 0) = fun _ => none := by
    funext v; cases v with
    | string y => simp [cntS]
    | _ => rfl
  rw [this]
  exact MapAt.new _ _ w
theorem CntS.chg {S : Nat → Prop} (h : CntS w b c) (hc : Chg S w w') (hS : ¬ S b) : CntS w' b c := h.imp fun n hn => hn.chg hc hS
theorem CntS.lt (h : CntS w b c) : b < w.heap.size := by obtain ⟨n, hn⟩ := h; exact hn.lt
theorem CntS.look (h : CntS w b c) (hx : x.size ≤ maxLen) : (Instr.lookup 39 (.map (some b)) (.string x) false).run Tryz.prog w = .ok (.int .i64 (c x : Int)) w := by
  obtain ⟨n, hn⟩ := h
  obtain ⟨l, hl⟩ := skey_of x hx
  have := hn.look skey_law Tryz.underlying39 (zero_int w) hl false
  rw [cntS_getD] at this
  exact this
theorem CntS.bump (h : CntS w b c) (hx : x.size ≤ maxLen) : ∃ w', (Instr.mapUpdate 39 (.map (some b)) (.string x) (.int .i64 ((c x : Int) + 1))).run Tryz.prog w = .ok () w' ∧ CntS w' b (fun y => if y = x then c y + 1 else c y) ∧ Chg (fun k => k = b) w w' ∧ w'.heap.size = w.heap.size := by
  obtain ⟨n, hn⟩ := h
  obtain ⟨l, hl⟩ := skey_of x hx
  obtain ⟨w', h1, h2, h3, h4⟩ := hn.store skey_law Tryz.underlying39 hl (.int .i64 ((c x : Int) + 1))
  rw [cntS_bump] at h2
  exact ⟨w', h1, ⟨_, h2⟩, h3, h4⟩
end
def hasC (A : List ByteArray) (y : ByteArray) : Nat := if hasTx A y then 1 else 0
theorem hasC_yes {A : List ByteArray} {y : ByteArray} (h : y ∈ A) : hasC A y = 1 := by unfold hasC; rw [hasTx_iff.2 h]; rfl
theorem hasC_no {A : List ByteArray} {y : ByteArray} (h : y ∉ A) : hasC A y = 0 := by
  unfold hasC
  have : hasTx A y = false := by
    rw [Bool.eq_false_iff]
    exact fun e => h (hasTx_iff.1 e)
  rw [this]
  rfl
theorem hasC_snoc (l : List ByteArray) (x : ByteArray) (hx : x ∉ l) : (fun y => if y = x then hasC l y + 1 else hasC l y) = hasC (l ++ [x]) := by
  funext y
  by_cases h : y = x
  · subst h
    rw [if_pos rfl, hasC_no hx, hasC_yes (by simp)]
  · rw [if_neg h]
    by_cases hm : y ∈ l
    · rw [hasC_yes hm, hasC_yes (by simp [hm])]
    · rw [hasC_no hm, hasC_no (by simp [hm, h])]
/-! ### The names, and four more -/
def rowS (S : Nat → ByteArray) (q : Nat) : List ByteArray := (List.range q).map S
theorem rowS_len (S : Nat → ByteArray) (q : Nat) : (rowS S q).length = q := by simp [rowS]
theorem run_cut4 (A : Option Addr) (n c q : Nat) (S : Nat → ByteArray) (W : World) (hS : StrsAt W A n S) (hq : q ≤ n) (hq30 : q ≤ 30) (M : List ByteArray) (hM0 : 0 < M.length) (hM : M.length ≤ 10) (b : Nat) (hb : Blk W b 9 (M.flatMap strC.g).toArray) (ty : TypeId) :
    ∃ v' w', (Builtin.append_ #[23, 23] ty #[.slice A q q, .slice (some ⟨b, 0, none⟩) M.length M.length]).run Tryz.prog W = .ok v' w' ∧ Lst strC w' v' (rowS S q ++ M) ∧ (∀ k, v'.ownBlock = some k → W.heap.size ≤ k) ∧ Chg (fun _ => False) W w' := by
  obtain ⟨i0, hi0, hz0, hz1, hz2⟩ := info_parts strOk.info
  have hz1 : i0.size = 1 := hz1
  have hz2 : i0.bytes = 16 := hz2
  have hm : (M.flatMap strC.g).length = M.length * 1 := flat_len strOk.len M
  have hl : ((rowS S q).flatMap strC.g).length = q * 1 := by rw [flat_len strOk.len, rowS_len]; rfl
  have one : ∀ (l : List ByteArray), ∀ u ∈ l.flatMap strC.g, u.oneCell' = true := fun l u hu => by
    obtain ⟨x, _, hx⟩ := List.mem_flatMap.1 hu
    exact strOk.one x u hx
  have hs2 : Src Tryz.prog 1 23 (.slice (some ⟨b, 0, none⟩) M.length M.length) M.length (M.flatMap strC.g) W :=
    Src.ofSlice W Tryz.underlying23 ⟨b, 0, none⟩ M.length M.length _ hm (World.news_of_block (cs := (M.flatMap strC.g).toArray) (t := 9) (fr := (0, 0)) hb) (one M)
  have hs1 : Src Tryz.prog 1 23 (.slice A q q) q ((rowS S q).flatMap strC.g) W := by
    rcases Nat.eq_zero_or_pos q with h0 | h0
    · subst h0
      cases A with
      | none => exact Src.ofNil W Tryz.underlying23 0
      | some a => exact Src.ofSlice W Tryz.underlying23 a 0 0 _ (by simp [rowS]) (fun j u hu => by simp [rowS] at hu) (one _)
    · obtain ⟨b', off, rfl, hb', hr⟩ := hS (by omega)
      refine Src.ofSlice W Tryz.underlying23 ⟨b', off, none⟩ q q _ hl (fun j u hu => ?_) (one _)
      have hj : j < q := by
        have := (List.getElem?_eq_some_iff.1 hu).1
        omega
      have e : ((rowS S q).flatMap strC.g) = (List.range q).map fun i => Value.string (S i) := by
        unfold rowS
        rw [List.flatMap_map]
        induction (List.range q) with
        | nil => rfl
        | cons a r ih => rw [List.flatMap_cons, List.map_cons, ih]; rfl
      rw [e] at hu
      simp [hj] at hu
      rw [← hu]
      rw [Addr.add_lit]
      exact hr j (by omega)
  have hr := run_append_grow_src (P := Tryz.prog) W 23 23 ty 9 i0 strC.zero Tryz.underlying23 hi0 hz0 A q q ((rowS S q).flatMap strC.g) (by rw [hz1]; exact hs1.cellsD) (.slice (some ⟨b, 0, none⟩) M.length M.length) M.length (M.flatMap strC.g) (by rw [hz1]; exact hs2) (by omega) (by omega) (growslice_fits (by omega) (by rw [hz2]; omega))
  have hlen : ((rowS S q).flatMap strC.g ++ M.flatMap strC.g).length = (q + M.length) * 1 := by
    rw [List.length_append, hl, hm]; omega
  have hge := grownCap_ge W (q + M.length) q 9
  have hcm : grownCap W (q + M.length) q 9 ≤ maxLen := grownCap_le_maxLen W (q + M.length) q 9 (by unfold maxLen; omega)
  refine ⟨_, _, hr, ?_, fun k hk => ?_, ((Chg.refl _ W).drew).alloc _⟩
  · unfold Lst
    rw [List.length_append, rowS_len, List.flatMap_append]
    refine ⟨hlen, .inr ⟨W.heap.size, _, _, rfl, heap_alloc_new W.drew _, hge, hcm, ?_, ?_⟩⟩
    · simp only [Array.size_append, List.size_toArray, size_zeroCells, strOk.zsize, hlen]
      show _ * 1 ≤ _ + _ * 1
      omega
    · simp only [Array.toList_append]
      exact List.take_left' hlen
  · simp [Value.ownBlock] at hk
    omega
section
variable {a : Act} {Q : Exit → Act → World → Prop} {ops : Array Oper} {o : Oper} {rest : List Oper}
/-- append(names[:q:q], four...). -/
theorem wpList_cut4 (A : Option Addr) (n q : Nat) (S : Nat → ByteArray) (W : World) (hgd : o.guard = none) (s x : Operand) (ho : o.op = .call { callee := .builtin .append, args := #[s, x], argTypes := #[23, 23] }) (hS : StrsAt W A n S) (hq : q ≤ n) (hq30 : q ≤ 30) (M : List ByteArray) (hM0 : 0 < M.length) (hM : M.length ≤ 10) (b : Nat) (hb : Blk W b 9 (M.flatMap strC.g).toArray)
    (hs : a.eval s = .slice A q q) (hx : a.eval x = .slice (some ⟨b, 0, none⟩) M.length M.length)
    (h : ∀ v' w', Lst strC w' v' (rowS S q ++ M) → (∀ k, v'.ownBlock = some k → W.heap.size ≤ k) → Chg (fun _ => False) W w' → wpList Tryz.prog ops Q rest (a.put o.dst v') w') :
    wpList Tryz.prog ops Q (o :: rest) a W :=
  wpList_plain hgd fun _ hK => by
    obtain ⟨v', w', hr, h2, h3, h4⟩ := run_cut4 A n n q S W hS hq hq30 M hM0 hM b hb o.type
    unfold Oper.wp execOp
    simp only [ho, resolve, invoke, builtin, Sem.run_bind, Sem.run_pure, Result.andThen_ok, List.map_toArray, List.map_cons, List.map_nil, hs, hx, hr]
    exact hK _ _ (h v' w' h2 h3 h4)
end
theorem run_pre (A : Option Addr) (n c q : Nat) (hq : q ≤ c) (W : World) : (Instr.slice 23 (.slice A n c) none (some (.int .i64 (q : Int))) (some (.int .i64 (q : Int)))).run Tryz.prog W = .ok (.slice A q q) W := by
  have hsz : (Go.sizeOf 9).run Tryz.prog W = .ok 1 W := by kernel_rfl
  have he : Tryz.prog.elem 23 = 9 := by kernel_rfl
  have ht : Tryz.prog.underlying 23 = some (.slice (Tryz.prog.elem 23)) := by rw [he]; exact Tryz.underlying23
  rw [run_slice_hm W _ A n c ht .i64 .i64 (q : Int) (q : Int) (by omega) (by omega) (by omega), he, hsz]
  cases A with
  | none => simp [Result.andThen, sliced]
  | some a =>
    have : a.add 0 = a := by simp [Addr.add]
    simp [Result.andThen, sliced, this]
theorem DY.metas {w0 w : World} {d : Nat} {D : DiskV} {Y : Nat → Prop} (h : DY w0 w d D Y) : DY w0 w d D (fun k => Y k ∨ ∃ cs, Blk w k 130 cs) := by
  obtain ⟨ids, M, ⟨hok, y, hin⟩, hM, hY, hc⟩ := h
  refine ⟨ids, DFoot d ids y, ⟨hok, y, { hin with mine := fun k hk => hk, lt := fun k hk => hin.lt k (hin.mine k hk) }⟩, fun k hk => hM k (hin.mine k hk), fun k hk => ?_, hc⟩
  rcases hk with hk | ⟨cs, hb⟩
  · exact ⟨(hY k hk).1, fun e => (hY k hk).2 (hin.mine k e)⟩
  · refine ⟨hb.lt, fun e => ?_⟩
    rcases e with e | e | e | e | e | e
    · exact hb.ne_ hin.blk (by decide) e
    · obtain ⟨t, cs', hb', ht⟩ := hin.files.typed e
      exact hb.ne_ hb' (by rcases ht with rfl | rfl | rfl <;> decide) rfl
    · exact hin.names.ne_blk hb e
    · exact hin.lasts.ne_blk hb e
    · obtain ⟨t, cs', hb', ht⟩ := hin.queue.typed e
      exact hb.ne_ hb' (by rcases ht with rfl | rfl <;> decide) rfl
    · obtain ⟨cs', hb'⟩ := hin.cutb.typed e
      exact hb.ne_ hb' (by decide) rfl
theorem edsAt_same {w w' : World} {A : Option Addr} {n : Nat} {Ed : Nat → EditV} (h : EdsAt w A n Ed) (hc : Chg (fun _ => False) w w') : EdsAt w' A n Ed := fun h0 => by
  obtain ⟨b, off, e, hb, hr⟩ := h h0
  refine ⟨b, off, e, Nat.lt_of_lt_of_le hb hc.size, fun i hi => ?_⟩
  obtain ⟨av, dv, x0, x1, x2, x3, x4, ra, rd⟩ := hr i hi
  have up : ∀ j v, w.cell? ⟨b, j, none⟩ = some v → w'.cell? ⟨b, j, none⟩ = some v := fun j v hv => (hc.cell (p := ⟨b, j, none⟩) hb (by simp)).trans hv
  exact ⟨av, dv, up _ _ x0, up _ _ x1, up _ _ x2, up _ _ x3, up _ _ x4, ra.same hc, rd.same hc⟩
theorem start_calm2 (room : Int) : Calm2 0 (startD room) := ⟨rfl, rfl, rfl, Nat.le_refl _⟩
theorem start_names (room : Int) : namesL (startD room) = [] := rfl
def four : List ByteArray := [curB, nextB, sX1, nm7]
theorem nameIn {L : List ByteArray} (h : ∀ x ∈ four, x ∈ L) (hl : L.length ≤ 4096) (need : ByteArray → Bool) (D : DiskV) (hD : D = makeL L (startD 1099511627776)) (ha : PAsc D.names) (ha2 : PAsc (cleanM need D).2.names) (h1 : need curB = true) (h2 : need nextB = false) (h3 : need sX1 = true) (h4 : need nm7 = true) :
    (cleanM need D).1 = 0 ∧ (cleanM need (cleanM need D).2).1 = 0 ∧ curB ∈ namesL (cleanM need (cleanM need D).2).2 ∧ nextB ∉ namesL (cleanM need (cleanM need D).2).2 ∧ sX1 ∈ namesL (cleanM need (cleanM need D).2).2 ∧ nm7 ∈ namesL (cleanM need (cleanM need D).2).2 ∧ Calm2 4096 (cleanM need (cleanM need D).2).2 := by
  obtain ⟨g1, g2⟩ := make_calm L (start_calm2 1099511627776) (by omega)
  rw [← hD] at g1 g2
  obtain ⟨e1, c1, m1⟩ := cleanM_calm need g1 ha
  obtain ⟨e2, c2, m2⟩ := cleanM_calm need c1 ha2
  have mk : ∀ x, x ∈ four → goodN x = true → x ∈ namesL D := fun x hx hg => (g2 x).2 (.inl ⟨h x hx, hg⟩)
  refine ⟨e1, e2, (m2 _).2 ⟨(m1 _).2 ⟨mk _ (by simp [four]) (by decide), h1⟩, h1⟩, fun e => ?_, (m2 _).2 ⟨(m1 _).2 ⟨mk _ (by simp [four]) (by decide), h3⟩, h3⟩, (m2 _).2 ⟨(m1 _).2 ⟨mk _ (by simp [four]) (by decide), h4⟩, h4⟩, c2.by_ (by omega)⟩
  have := ((m2 _).1 e).2
  rw [h2] at this
  cases this
theorem psm_cleanL (need : ByteArray → Bool) : ∀ (l : List ByteArray) {m : Nat} {D : DiskV} (b : Bool), PSm m D → PSm (m + l.length + 1) (cleanL need l D b).2
  | [], m, D, b, h => by
    unfold cleanL
    cases b
    · exact h.by_ (by simp)
    · exact (p_bsm_syncdir h).by_ (by simp)
  | n :: r, m, D, b, h => by
    rw [cleanL]
    have h1 := p_bsm_remove n h
    split
    · exact (psm_cleanL need r b h).by_ (by simp only [List.length_cons]; omega)
    split
    · exact h1.by_ (by simp)
    · exact (psm_cleanL need r true h1).by_ (by simp only [List.length_cons]; omega)
theorem psm_cleanM (need : ByteArray → Bool) {m : Nat} {D : DiskV} (h : PSm m D) : PSm (3 * m + 1) (cleanM need D).2 := by
  have := h.n
  have hl : (namesL D).length = D.names.length := by simp [namesL]
  exact (psm_cleanL need (namesL D) false h).by_ (by omega)
set_option maxRecDepth 100000 in
set_option maxHeartbeats 8000000 in
theorem man_cleans (A1 : Option Addr) (n1 c1 : Nat) (Ed : Nat → EditV) (A2 : Option Addr) (n2 c2 : Nat) (S2 : Nat → ByteArray) (w : World) (ht : Tab w) (he : ErrOk w) (hn1 : n1 ≤ c1) (hc1 : c1 ≤ maxLen) (hE : EdsAt w A1 n1 Ed) (hF : ∀ i, i < n1 → EdFine (Ed i))
    (hn2 : n2 ≤ c2) (hc2 : c2 ≤ maxLen) (hS : StrsAt w A2 n2 S2) (hsz : ∀ i, (S2 i).size ≤ maxLen) :
    Calls Tryz.prog 3 #[.slice A1 n1 c1, .slice A2 n2 c2] w fun e w' => e = .returned (.bool true) ∧ Chg (fun _ => False) w w' := by
  have hmm : ∀ w : World, (Instr.makeMap 39 none).run Tryz.prog w = .ok (.map (some w.heap.size)) (w.alloc (.map #[] 0)) := fun w => run_makeMap 39 w
  have hnew := st_new 1099511627776 (by omega) w
  have HNEW := Lib.hid hnew
  have HED := Lib.hid hE
  have HF := Lib.hid hF
  have HS := Lib.hid hS
  have HSZ := Lib.hid hsz
  have HT := Lib.hid ht
  have HE := Lib.hid he
  have HMM := Lib.hid hmm
  clear hnew hE hF hS hsz ht he hmm
  go_enter Tryz.func3, Tryz.ntmps3
  go_wp2_with fail
  refine HNEW.out.mono ?_
  rintro e w1 ⟨rfl, hd1⟩
  have hd1 := DY.of hd1
  obtain ⟨d, hd⟩ : ∃ d, w.heap.size + 2 = d := ⟨_, rfl⟩
  rw [hd] at hd1 ⊢
  have hcf := hd1.frame
  have haf := law_after A1 n1 c1 Ed w1 hn1 hc1 (edsAt_same HED.out hcf) HF.out
  have HAF := Lib.hid haf
  have HD1 := Lib.hid hd1
  have HCF := Lib.hid hcf
  clear haf hd1 hcf
  clear hd
  go_wp2_with fail
  refine HAF.out.mono ?_
  rintro e w2 ⟨V, a0, a1, a2, a3, av, m0, m1, m2, m3, mv, d0, d1, d2, d3, dv, hFine, hlen, rfl, hV, hR, hc2'⟩
  obtain ⟨w3, hw3⟩ : ∃ w3, w3 = (w2.alloc (.cells #[.slice a0 m0 d0, .slice a1 m1 d1, .slice a2 m2 d2, .slice a3 m3 d3, .int .i64 V.log, .int .i64 V.next, .int .i64 V.seq] 29)).alloc (.cells #[.slice av mv dv, .int .i64 V.log, .int .i64 V.next, .int .i64 V.seq] 32) := ⟨_, rfl⟩
  have hc23 : Chg (fun _ => False) w2 w3 := by rw [hw3]; exact ((Chg.refl _ _).alloc _).alloc _
  have hb3 : Blk w3 w2.heap.size 29 #[.slice a0 m0 d0, .slice a1 m1 d1, .slice a2 m2 d2, .slice a3 m3 d3, .int .i64 V.log, .int .i64 V.next, .int .i64 V.seq] := by rw [hw3]; exact (Blk.new _ _ _).alloc _
  have hc13 := hc2'.then hc23
  have hs12 := hc2'.size
  have hV3 := hV.same hc23
  have hlt3 := hb3.lt
  have hwk := man_wakes w3 (HT.out.chg (HCF.out.then hc13)) (HE.out.chg (HCF.out.then hc13))
  have HW3 := Lib.hid hw3
  have HB3 := Lib.hid hb3
  have HC13 := Lib.hid hc13
  have HV3 := Lib.hid hV3
  have HWK := Lib.hid hwk
  have HLEN := Lib.hid hlen
  clear hw3 hb3 hc13 hV3 hwk hlen
  clear hFine hV hR hc2' hc23
  go_upto_region 3 with fail
  rw [← HW3.out]
  go_wp2_with fail
  refine HWK.out.mono ?_
  rintro e w4 ⟨rfl, hc4⟩
  obtain ⟨q, hq1, hq2, hq3⟩ : ∃ q : Nat, q ≤ n2 ∧ q ≤ 30 ∧ (q = n2 ∨ q = 30) := ⟨min n2 30, by omega, by omega, by omega⟩
  obtain ⟨w5, hw5⟩ : ∃ w5, w5 = w4.alloc (.cells #[.string curB, .string nextB, .string sX1, .string nm7] 9) := ⟨_, rfl⟩
  have hc45 : Chg (fun _ => False) w4 w5 := by rw [hw5]; exact (Chg.refl _ _).alloc _
  have hb5 : Blk w5 w4.heap.size 9 #[.string curB, .string nextB, .string sX1, .string nm7] := by rw [hw5]; exact Blk.new _ _ _
  have hc15 := HC13.out.then (hc4.then hc45)
  have hs35 := (hc4.then hc45).size
  have hS5 := HS.out.same (HCF.out.then hc15)
  have hslc : ∀ W : World, (Instr.slice 23 (.slice A2 n2 c2) none (some (.int .i64 (min (n2 : Int) 30))) (some (.int .i64 (min (n2 : Int) 30)))).run Tryz.prog W = .ok (.slice A2 q q) W := fun W => by
    have e : min (n2 : Int) 30 = (q : Int) := by omega
    rw [e]
    exact run_pre A2 n2 c2 q (by omega) W
  have hV5 := HV3.out.same (hc4.then hc45)
  have hB5 := HB3.out.chg (hc4.then hc45) (by simp)
  unfold curB nextB sX1 nm7 at hw5
  have HW5 := Lib.hid hw5
  have HC15 := Lib.hid hc15
  have HS5 := Lib.hid hS5
  have HV5 := Lib.hid hV5
  have HB5 := Lib.hid hB5
  have HL5 := Lib.hid hb5
  have HN2 := Lib.hid hn2
  have HC2 := Lib.hid hc2
  clear hw5 hc15 hS5 hV5 hB5 hb5 hn2 hc2
  clear hc4 hc45 hq3
  clear hn1 hc1
  obtain ⟨L, hL⟩ : ∃ L, rowS S2 q ++ four = L := ⟨_, rfl⟩
  have HLQ := Lib.hid hL
  have hLl : L.length ≤ 34 := by rw [← hL, List.length_append, rowS_len]; show q + 4 ≤ 34; omega
  clear hL
  go_upto_region 6 with fail
  go_wp2_with ((rw [← HW5.out]; refine wpList_cut4 A2 n2 q S2 w5 (by rfl) _ _ (by rfl) HS5.out hq1 hq2 four (by decide) (by decide) w4.heap.size HL5.out (by rfl) (by rfl) ?_; intro v' w6 hO6 hown6 hc6; rw [HLQ.out] at hO6; obtain ⟨la, lc, rfl, hlc, hl63, _⟩ := hO6.form strOk))
  have hL := HLQ.out
  have hL4 : ∀ x ∈ four, x ∈ L := fun x hx => by rw [← hL]; exact List.mem_append_right _ hx
  have hLz : ∀ x ∈ L, x.size ≤ maxLen := fun x hx => by
    rw [← hL] at hx
    rcases List.mem_append.1 hx with hx | hx
    · obtain ⟨i, _, rfl⟩ := List.mem_map.1 hx
      exact HSZ.out i
    · have : ∀ y ∈ four, y.size ≤ maxLen := by decide
      exact this x hx
  have hc16 := HC15.out.then hc6
  have hd6 := (HD1.out.grow hc16).metas
  obtain ⟨Y, hY⟩ : ∃ Y : Nat → Prop, (fun k => (False ∨ (w1.heap.size ≤ k ∧ k < w6.heap.size)) ∨ ∃ cs, Blk w6 k 130 cs) = Y := ⟨_, rfl⟩
  rw [hY] at hd6
  have hY1 : ∀ k, w1.heap.size ≤ k → k < w6.heap.size → Y k := fun k h1 h2 => by rw [← hY]; exact .inl (.inr ⟨h1, h2⟩)
  have hY2 : ∀ k cs, Blk w6 k 130 cs → Y k := fun k cs hb => by rw [← hY]; exact .inr ⟨cs, hb⟩
  have hV6 := HV5.out.same hc6
  have hB6 := HB5.out.chg hc6 (by simp)
  have hs56 := hc6.size
  have hown : ∀ k, (Value.slice la L.length lc).ownBlock = some k → Y k := fun k hk => hY1 k (by have := hown6 k hk; omega) (hO6.lt hk)
  have hYb : Y w2.heap.size := hY1 _ hs12 (by omega)
  have hVY : ∀ i, i < 4 → ∀ k, ((Lv (.slice a0 m0 d0) (.slice a1 m1 d1) (.slice a2 m2 d2) (.slice a3 m3 d3)) i).ownBlock = some k → Y k := fun i hi k hk => by
    obtain ⟨cs, hb⟩ := (hV6 i hi).typed hk
    exact hY2 k cs hb
  have hcm := start_calm2 1099511627776
  have hoth : othL L (startD 1099511627776) = 1 := oth_one L hcm (by omega) (by simp [start_names]) (hL4 _ (by simp [four]))
  have HO6 := Lib.hid hO6
  have HL4 := Lib.hid hL4
  have HLZ := Lib.hid hLz
  have HD6 := Lib.hid hd6
  have HV6 := Lib.hid hV6
  have HB6 := Lib.hid hB6
  have HOWN := Lib.hid hown
  have HYB := Lib.hid hYb
  have HVY := Lib.hid hVY
  have HOTH := Lib.hid hoth
  have HCM := Lib.hid hcm
  clear hO6 hL4 hLz hd6 hV6 hB6 hown hYb hVY hoth hcm
  clear hc6 hY hY1 hY2 hown6 hL hc16 hslc HS HSZ HS5 HN2 HC2 HW5 HL5 HB5 HV5 HW3 HV3 HC15
  go_loopw [8, 33] (fun o i wr => ∃ (k m : Nat) (D : DiskV), i = .int .i64 k ∧ k ≤ L.length ∧ o = .int .i64 m ∧ m + othL (L.drop k) D = 1 ∧ makeL (L.drop k) D = makeL L (startD 1099511627776) ∧ PSm k D ∧ DY w wr d D Y ∧ Kept Y w6 wr) (fun _ i _ => L.length - (intOf i).toNat)
  case atStart => exact ⟨0, 0, _, rfl, Nat.zero_le _, rfl, by rw [List.drop_zero, Nat.zero_add]; exact HOTH.out, rfl, p_bsm_start _, HD6.out, Kept.refl _ _⟩
  case round =>
    obtain ⟨k, m, D, rfl, hk, rfl, hm, hmk, hps, hdy, hkp⟩ := hrel
    by_cases hlt : k < L.length
    · obtain ⟨x, hx, hA, hB, hC, hD⟩ := split_at hlt
      obtain ⟨a', cap', hva', _, _, hr'⟩ := (HO6.out.kept hkp HOWN.out).form strOk
      injection hva' with e1 e2 e3
      subst e1 e3
      obtain ⟨b, rfl, hb, _, hcell⟩ := hr' _ _ _ hA
      have x0 := hcell 0 _ rfl
      rw [hB] at x0
      simp only [strC, Nat.mul_one, Nat.add_zero] at x0
      have hxz := HLZ.out x (List.mem_of_getElem? hx)
      have hcr := y_create w d D Y x hxz (hps.ds (by omega)) wr hdy
      rw [hD] at hm hmk
      rw [othL] at hm
      rw [makeL] at hmk
      have hps2 := p_bsm_create x hps
      have hq : decide ((k : Int) < (L.length : Int)) = true := by simp; omega
      have hi := IntWalk.i64_in ((k : Int) + 1) (by omega)
      obtain ⟨⟨ec, D2⟩, hcd⟩ : ∃ r, createD D x = r := ⟨_, rfl⟩
      rw [hcd] at hcr hm hmk hps2
      simp only at hcr hm hmk hps2
      have HCR := Lib.hid hcr
      have HM := Lib.hid hm
      have HMK := Lib.hid hmk
      have HPS2 := Lib.hid hps2
      have HKP := Lib.hid hkp
      clear hcr hm hmk hps2 hkp
      clear hcell hA hB hC hD hx hcd hdy hps hr'
      go_wp2_with fail
      refine HCR.out.mono ?_
      rintro e w7 ⟨rfl, hd7, hk7⟩
      have hk7 := HKP.out.then hk7
      by_cases hec : ec = 0
      · subst hec
        by_cases hx1 : x = sX1
        · subst hx1
          have q2 : (sX1.toList == [120]) = true := by rw [ByteArray.toList_eq]; rfl
          have hi2 := IntWalk.i64_in ((m : Int) + 1) (by have := HM.out; rw [if_pos ⟨rfl, rfl⟩] at this; omega)
          have HD7 := Lib.hid hd7
          have HK7 := Lib.hid hk7
          clear hd7 hk7
          go_wp2_with fail
          go_roundw
          · exact ⟨k + 1, m + 1, D2, by simp, by omega, by simp, by have := HM.out; simp at this; omega, HMK.out, HPS2.out, HD7.out, HK7.out⟩
          · simp [intOf]; omega
        · have q2 : (x.toList == [120]) = false := by
            have : (x.toList == sX1.toList) = false := by rw [ba_test]; simp [hx1]
            rw [← this, show sX1.toList = [120] by rw [ByteArray.toList_eq]; rfl]
          have HD7 := Lib.hid hd7
          have HK7 := Lib.hid hk7
          clear hd7 hk7
          go_wp2_with fail
          go_roundw
          · exact ⟨k + 1, m, D2, by simp, by omega, rfl, by have := HM.out; rw [if_neg (fun a => hx1 a.2)] at this; omega, HMK.out, HPS2.out, HD7.out, HK7.out⟩
          · simp [intOf]; omega
      · have q1 : (ec == 0) = false := by simp [hec]
        have HD7 := Lib.hid hd7
        have HK7 := Lib.hid hk7
        clear hd7 hk7
        go_wp2_with fail
        go_roundw
        · exact ⟨k + 1, m, D2, by simp, by omega, rfl, by have := HM.out; rw [if_neg (fun a => hec a.1)] at this; omega, HMK.out, HPS2.out, HD7.out, HK7.out⟩
        · simp [intOf]; omega
    · have hke : k = L.length := by omega
      subst hke
      have hq : decide ((L.length : Int) < (L.length : Int)) = false := by simp
      rw [List.drop_length] at hm hmk
      have hm1 : m = 1 := hm
      subst hm1
      have hmk : D = makeL L (startD 1099511627776) := hmk
      have hnd := need_names V.log (filesOf (flatF V.lv))
      have hlv : ∀ i, i < 4 → (V.lv i).length ≤ 100000000 := fun i hi => by have := lv_len V i hi; have := HLEN.out; omega
      obtain ⟨need, hneed⟩ : ∃ need, (fun nm => needM nm 7 V.log (filesOf (flatF V.lv))) = need := ⟨_, rfl⟩
      have hcl : ∀ D' m' (hm' : m' ≤ 10000) (hps' : PSm m' D') W (hd' : DY w W d D' Y) (hk' : Kept Y w6 W), Calls Tryz.prog 9 #[.pointer (some ⟨d, 0, none⟩), .int .i64 7, .agg #[.slice a0 m0 d0, .slice a1 m1 d1, .slice a2 m2 d2, .slice a3 m3 d3, .int .i64 V.log, .int .i64 V.next, .int .i64 V.seq]] W
          (fun e w' => e = .returned (.int .i64 (cleanM need D').1) ∧ DY w w' d (cleanM need D').2 Y ∧ Kept Y W w') := fun D' m' hm' hps' W hd' hk' => by
        have := ma_clean 7 (Lv (.slice a0 m0 d0) (.slice a1 m1 d1) (.slice a2 m2 d2) (.slice a3 m3 d3)) V.lv V.log V.next V.seq d D' m' hm' hps' Y w W hd' HT.out HE.out (HV6.out.kept hk' HVY.out) HVY.out hlv
        rw [hneed] at this
        exact this
      have hcl1 := hcl D L.length (by omega) hps wr hdy hkp
      have hps1 := psm_cleanM need hps
      have hcl2 := fun W hd' hk' => hcl (cleanM need D).2 (3 * L.length + 1) (by omega) hps1 W hd' hk'
      have hps2 := psm_cleanM need hps1
      obtain ⟨e1, e2, g1, g2, g3, g4, g5⟩ := nameIn HL4.out (by omega) need D hmk hps.an hps1.an (by rw [← hneed]; exact hnd.1) (by rw [← hneed]; exact hnd.2.1) (by rw [← hneed]; exact hnd.2.2.1) (by rw [← hneed]; exact hnd.2.2.2)
      rw [e1] at hcl1
      obtain ⟨D1, hD1⟩ : ∃ D1, (cleanM need D).2 = D1 := ⟨_, rfl⟩
      rw [hD1] at hcl1 hcl2 e2 g1 g2 g3 g4 g5 hps2
      rw [e2] at hcl2
      obtain ⟨D2, hD2⟩ : ∃ D2, (cleanM need D1).2 = D2 := ⟨_, rfl⟩
      rw [hD2] at hcl2 g1 g2 g3 g4 g5 hps2
      have hb := HB6.out.kept hkp HYB.out
      have y0 := hb.cell 0
      have y1 := hb.cell 1
      have y2 := hb.cell 2
      have y3 := hb.cell 3
      have y4 := hb.cell 4
      have y5 := hb.cell 5
      have y6 := hb.cell 6
      simp at y0 y1 y2 y3 y4 y5 y6
      have HCL1 := Lib.hid hcl1
      have HCL2 := Lib.hid hcl2
      have HKP := Lib.hid hkp
      have G1 := Lib.hid g1
      have G2 := Lib.hid g2
      have G3 := Lib.hid g3
      have G4 := Lib.hid g4
      have G5 := Lib.hid g5
      have HPS2 := Lib.hid hps2
      have HB := Lib.hid hb
      clear hcl1 hcl2 hkp g1 g2 g3 g4 g5 hps2 hb
      clear hcl hnd hlv hneed e1 e2 hD1 hD2 hmk hps1 hps hdy hm HCM HOTH HD6
      go_wp2_with fail
      refine HCL1.out.mono ?_
      rintro e w7 ⟨rfl, hd7, hk7⟩
      have hb := HB.out.kept hk7 HYB.out
      have z0 := hb.cell 0
      have z1 := hb.cell 1
      have z2 := hb.cell 2
      have z3 := hb.cell 3
      have z4 := hb.cell 4
      have z5 := hb.cell 5
      have z6 := hb.cell 6
      simp at z0 z1 z2 z3 z4 z5 z6
      have hk7' := HKP.out.then hk7
      have hcl2 := HCL2.out w7 hd7 hk7'
      have HK7' := Lib.hid hk7'
      have HCL2 := Lib.hid hcl2
      clear hk7' hcl2
      clear hk7 hd7 hb
      go_wp2_with fail
      refine HCL2.out.mono ?_
      rintro e w8 ⟨rfl, hd8, hk8⟩
      obtain ⟨w9, hw9⟩ : ∃ w9, w9 = w8.alloc (.map #[] 0) := ⟨_, rfl⟩
      have hc89 : Chg (fun _ => False) w8 w9 := by rw [hw9]; exact (Chg.refl _ _).alloc _
      have hcn : CntS w9 w8.heap.size fun _ => 0 := by rw [hw9]; exact CntS.new w8
      have hli := y_list w d D2 Y (by have := G5.out.few; omega) HPS2.out.an w9 (hd8.same hc89)
      have hfr := hd8.frame.then hc89
      have hd8ok := hd8.ok
      have hw8s : w.heap.size ≤ w8.heap.size := hd8.frame.size
      have hmm2 := HMM.out w8
      have HW9 := Lib.hid hw9
      have HCN := Lib.hid hcn
      have HLI := Lib.hid hli
      have HFR := Lib.hid hfr
      clear hw9 hcn hli hfr
      clear hk8 hd8 hc89
      go_upto_region 15 with fail
      rw [← HW9.out]
      clear hmm2
      go_wp2_with fail
      refine HLI.out.mono ?_
      rintro e w10 ⟨v, rfl, hL10, hown10, hc10⟩
      have hnod := namesL_nodup HPS2.out.an
      have hcn10 := HCN.out.chg hc10 (by simp)
      have hlt9 := HCN.out.lt
      have hNl : (namesL D2).length ≤ 4096 := by
        have := G5.out.few
        have e : (namesL D2).length = D2.names.length := by simp [namesL]
        omega
      have hNz : ∀ x ∈ namesL D2, x.size ≤ maxLen := fun x hx => by
        obtain ⟨i, hi⟩ := mem_namesL.1 hx
        have := hd8ok.names.sz _ hi
        unfold maxLen
        simp only at this
        omega
      obtain ⟨N, hN⟩ : ∃ N, namesL D2 = N := ⟨_, rfl⟩
      rw [hN] at hL10 hnod hNl hNz
      have g1 := G1.out
      have g2 := G2.out
      have g3 := G3.out
      have g4 := G4.out
      rw [hN] at g1 g2 g3 g4
      obtain ⟨na, nc, rfl, hnc, _, _⟩ := hL10.form strOk
      have hown10' : ∀ k, (Value.slice na N.length nc).ownBlock = some k → k ≠ w8.heap.size := fun k hk e => by have := hown10 k hk; omega
      have hcf10 := HFR.out.then hc10
      have HL10 := Lib.hid hL10
      have HOWN10' := Lib.hid hown10'
      have HNOD := Lib.hid hnod
      have HNZ := Lib.hid hNz
      have K1 := Lib.hid g1
      have K2 := Lib.hid g2
      have K3 := Lib.hid g3
      have K4 := Lib.hid g4
      have HCN10 := Lib.hid hcn10
      have HCF10 := Lib.hid hcf10
      clear hL10 hown10' hnod hNz g1 g2 g3 g4 hcn10 hcf10
      clear hN hown10 hc10 G1 G2 G3 G4 G5 HLI HCN HFR HCL1 HCL2
      go_wp2_with fail
      go_loopw [62] (fun i wr => ∃ k : Nat, i = .int .i64 k ∧ k ≤ N.length ∧ CntS wr w8.heap.size (hasC (N.take k)) ∧ Chg (fun j => j = w8.heap.size) w10 wr) (fun i _ => N.length - (intOf i).toNat)
      case atStart =>
        refine ⟨0, rfl, Nat.zero_le _, ?_, Chg.refl _ _⟩
        have e : hasC (N.take 0) = fun _ => 0 := by funext y; exact hasC_no (by simp)
        rw [e]
        exact HCN10.out
      case round =>
        obtain ⟨k, rfl, hk, hcn, hcr⟩ := hrel
        by_cases hlt : k < N.length
        · obtain ⟨x, hx, hA, hB, hC, hD⟩ := split_at hlt
          obtain ⟨a', cap', hva', _, _, hr'⟩ := (HL10.out.chg hcr HOWN10'.out).form strOk
          injection hva' with e1 e2 e3
          subst e1 e3
          obtain ⟨b, rfl, hb, _, hcell⟩ := hr' _ _ _ hA
          have x0 := hcell 0 _ rfl
          rw [hB] at x0
          simp only [strC, Nat.mul_one, Nat.add_zero] at x0
          have hnot : x ∉ N.take k := fun e => by
            have hn := HNOD.out
            rw [hA] at hn
            exact (List.nodup_append.1 hn).2.2 x e x (by simp) rfl
          have hlk := hcn.look (HNZ.out x (List.mem_of_getElem? hx))
          rw [hasC_no hnot] at hlk
          obtain ⟨w11, hup, hcn11, hc11, _⟩ := hcn.bump (HNZ.out x (List.mem_of_getElem? hx))
          rw [hasC_no hnot] at hup
          rw [hasC_snoc _ _ hnot, ← hC] at hcn11
          have hq : decide ((k : Int) < (N.length : Int)) = true := by simp; omega
          have hi := IntWalk.i64_in ((k : Int) + 1) (by omega)
          have hlk' : (Instr.lookup 39 (.map (some w8.heap.size)) (.string x) false).run Tryz.prog wr = .ok (.int .i64 0) wr := hlk
          have hup' : (Instr.mapUpdate 39 (.map (some w8.heap.size)) (.string x) (.int .i64 1)).run Tryz.prog wr = .ok () w11 := hup
          have hcr11 := hcr.then hc11
          have HCN11 := Lib.hid hcn11
          have HCR11 := Lib.hid hcr11
          clear hcn11 hcr11
          clear hcell hA hB hC hD hx hr' hnot hlk hup hcn hcr hc11
          go_wp2_with fail
          go_roundw
          · exact ⟨k + 1, by simp, by omega, HCN11.out, HCR11.out⟩
          · simp [intOf]; omega
        · have hke : k = N.length := by omega
          subst hke
          have hq : decide ((N.length : Int) < (N.length : Int)) = false := by simp
          rw [List.take_length] at hcn
          have l1 := hcn.look (x := nextB) (by decide)
          have l2 := hcn.look (x := curB) (by decide)
          have l3 := hcn.look (x := sX1) (by decide)
          have l4 := hcn.look (x := nm7) (by decide)
          rw [hasC_no K2.out] at l1
          rw [hasC_yes K1.out] at l2
          rw [hasC_yes K3.out] at l3
          rw [hasC_yes K4.out] at l4
          unfold nextB at l1
          unfold curB at l2
          unfold sX1 at l3
          unfold nm7 at l4
          have hcz := HCF10.out.trans hcr fun k hk e => by omega
          have HCZ := Lib.hid hcz
          clear hcz
          clear hcr hcn
          go_wp2_with fail
          go_ret
          exact ⟨rfl, HCZ.out⟩
end Go.Proofs.YtahahginmgidjaaGreatDoor
