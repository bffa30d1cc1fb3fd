/-
  The document's disk: Fail.
-/
import Derived.Test.YtjfbcjmnjlehaaaGreatDoorZRdD
import Derived.Deep.RegionHeld3
import Derived.Deep.RegionLaw
namespace Go.Proofs.YtjfbcjmnjlehaaaGreatDoor
open Go.RowKit
set_option linter.unusedVariables false
set_option linter.unusedSimpArgs false

/-- Bounds on a disk that a law keeps well below. -/
structure RSmall (D : DiskV) : Prop where
  q : D.queue.length ≤ 1000000
  f : D.files.length ≤ 1000000
  n : D.names.length ≤ 1000000
  l : D.lasts.length ≤ 1000000
  s : ∀ s ∈ D.queue, s.length ≤ 2
theorem doOne_len (l : Names) (c : ByteArray × Option Nat) : (doOne l c).length ≤ l.length + 1 := by
  have := withR_len (ofNames l) (ofChg c)
  rw [withR_eq] at this
  simpa [ofNames] using this
theorem doStep_len (s : StepV) : ∀ l : Names, (doStep l s).length ≤ l.length + s.length := by
  induction s with
  | nil => simp [doStep]
  | cons c s ih =>
    intro l
    have h1 := doOne_len l c
    have h2 := ih (doOne l c)
    show (doStep (doOne l c) s).length ≤ _
    simp; omega
theorem doAll_len (q : List StepV) (h : ∀ s ∈ q, s.length ≤ 2) : ∀ l : Names, (doAll l q).length ≤ l.length + 2 * q.length := by
  induction q with
  | nil => simp [doAll]
  | cons s q ih =>
    intro l
    have h1 := doStep_len s l
    have h2 := ih (fun t ht => h t (by simp [ht])) (doStep l s)
    have h3 := h s (by simp)
    show (doAll (doStep l s) q).length ≤ _
    simp; omega
theorem ofNames_len (l : Names) : (ofNames l).length = l.length := by simp [ofNames]
theorem ofStep_len (s : StepV) : (ofStep s).length = s.length := by simp [ofStep]

/-- Lasts is another list. -/
theorem RIn.stLasts {w w2 : World} {r : Nat} {D : DiskV} {y : RLay} {M : Nat → Prop} {v' : Value} {L : Names} (h : RIn w r D y M) (hc : Chg (fun _ => False) w w2) (hn : RNm w2 v' (ofNames L)) (hv : ∀ k, v'.ownBlock = some k → M k ∨ w.heap.size ≤ k) :
    RIn (w2.setCell ⟨r, 3, none⟩ v') r { D with lasts := L } { y with lv := v' } (Mx M w w2) ∧ Chg (fun k => k = r) w (w2.setCell ⟨r, 3, none⟩ v') := by
  have hset : Chg (fun k => k = r) w2 (w2.setCell ⟨r, 3, none⟩ v') := Chg.setOwn (Chg.refl _ _) _ _
  have hall : Chg (fun k => k = r) w (w2.setCell ⟨r, 3, none⟩ v') := (hc.mono (by simp)).then hset
  have hp := h.own hall
  have hs0 := hc.size
  have hr := h.blk.chg hc (by simp)
  refine ⟨⟨?_, ⟨hp.files, hp.names, RNm.chg hn hset (fun k hk => ?_), hp.queue, hp.cutb⟩, h.cnb, ?_, ?_⟩, hall⟩
  · have := hr.set_ 3 v'
    simpa [rCells] using this
  · obtain ⟨cs, hb⟩ := Own.typed hn hk
    exact hb.ne_ hr (by decide)
  · have hm := h.mine
    rintro k (e | e | e | e | e | e | e)
    · exact .inl (hm k (.inl e))
    · exact .inl (hm k (.inr (.inl e)))
    · exact .inl (hm k (.inr (.inr (.inl e))))
    · rcases hv k e with e' | e'
      · exact .inl e'
      · exact .inr ⟨e', Own.lt hn e⟩
    · exact .inl (hm k (.inr (.inr (.inr (.inr (.inl e))))))
    · exact .inl (hm k (.inr (.inr (.inr (.inr (.inr (.inl e)))))))
    · exact .inl (hm k (.inr (.inr (.inr (.inr (.inr (.inr e)))))))
  · have := mx_lt h.lt hs0
    intro k hk
    have := this k hk
    simpa [World.setCell] using this

/-- The files are others; they lie where they lay. -/
theorem RIn.putFiles {w W : World} {r fb : Nat} {D : DiskV} {y : RLay} {M : Nat → Prop} (h : RIn w r D y M) (hfb : y.fv.ownBlock = some fb) (hc : Chg (fun k => k = fb) w W) (files' : List FileV) (ho : Own W 106 2 y.fv files'.length (flCells files')) : RIn W r { D with files := files' } y M := by
  obtain ⟨cs, hb⟩ := h.parts.files.typed hfb
  refine ⟨h.blk.chg hc (h.blk.ne_ hb (by decide)), ⟨ho, RNm.chg h.parts.names hc fun k hk => ?_, RNm.chg h.parts.lasts hc fun k hk => ?_, h.parts.queue.chg hc fun k hk => ?_, h.parts.cutb.chg hc fun k hk => ?_⟩, h.cnb, h.mine, fun k hk => Nat.lt_of_lt_of_le (h.lt k hk) hc.size⟩
  · obtain ⟨cs2, hb2⟩ := Own.typed h.parts.names hk
    exact hb2.ne_ hb (by decide)
  · obtain ⟨cs2, hb2⟩ := Own.typed h.parts.lasts hk
    exact hb2.ne_ hb (by decide)
  · rcases hk with hk | ⟨j, hk⟩
    · obtain ⟨cs2, hb2⟩ := h.parts.queue.own.typed hk
      exact hb2.ne_ hb (by decide)
    · obtain ⟨cs2, hb2⟩ := h.parts.queue.stepTyped hk
      exact hb2.ne_ hb (by decide)
  · obtain ⟨cs2, hb2⟩ := h.parts.cutb.typed hk
    exact hb2.ne_ hb (by decide)
/-- One file is another one: both its cells are stored. -/
theorem RIn.stFile {w W : World} {r fb i : Nat} {D : DiskV} {y : RLay} {M : Nat → Prop} (h : RIn w r D y M) (hfb : y.fv.ownBlock = some fb) (hW : Chg (fun _ => False) w W) (hi : i < D.files.length) (f : FileV) :
    RIn ((W.setCell ⟨fb, i * 2, none⟩ (.string f.data)).setCell ⟨fb, i * 2 + 1, none⟩ (.int .i64 f.lasts)) r { D with files := D.files.set i f } y M ∧ Chg (fun k => k = fb) w ((W.setCell ⟨fb, i * 2, none⟩ (.string f.data)).setCell ⟨fb, i * 2 + 1, none⟩ (.int .i64 f.lasts)) := by
  have hc : Chg (fun k => k = fb) w ((W.setCell ⟨fb, i * 2, none⟩ (.string f.data)).setCell ⟨fb, i * 2 + 1, none⟩ (.int .i64 f.lasts)) := Chg.setOwn (Chg.setOwn (hW.mono (by simp)) _ _) _ _
  refine ⟨h.putFiles hfb hc _ ?_, hc⟩
  have ho := ((h.parts.files.same hW).stored hfb (i * 2) (.string f.data)).stored hfb (i * 2 + 1) (.int .i64 f.lasts)
  rw [flCells_set _ _ hi] at ho
  rw [List.length_set]
  exact ho

section
variable {a : Act} {Q : Exit → Act → World → Prop} {K : Act → World → Prop} {ops : Array Oper} {o : Oper} {E : Prop}
theorem step_rnm_append (W : World) (hgd : o.guard = none) (s x : Operand) (ho : o.op = .call { callee := .builtin .append, args := #[s, x], argTypes := #[69, 69] }) (L : RNms) (v : Value) (p : ByteArray × Int) (hs : a.eval s = v) (hv : RNm W v L)
    (b : Nat) (hx : a.eval x = .slice (some ⟨b, 0, none⟩) 1 1) (hL : L.length ≤ 2000000000) (hb : Blk W b 104 #[.string p.1, .int .i64 p.2])
    (h : ∀ v' w', RNm w' v' (L ++ [p]) → Chg (fun k => v.ownBlock = some k) W w' → (∀ k, v'.ownBlock = some k → v.ownBlock = some k ∨ W.heap.size ≤ k) → K (a.put o.dst v') w') :
    if Region.wanted o (yielded ops a.tmps) = true then Oper.wp Tryz.prog o a W K Q else E := by
  obtain ⟨i0, hi, hz0, hz1, hz2⟩ := info_parts info_rname
  refine step_own_append _ hgd s x _ _ ho 104 i0 (.agg #[.string ⟨#[]⟩, .int .i64 0]) 2 24 Tryz.underlying69 hi hz0 hz1 hz2 rfl v L.length (nmCells L) hs hv _ 1 [.string p.1, .int .i64 p.2] hx
    (Src.ofSlice _ Tryz.underlying69 ⟨b, 0, none⟩ 1 1 _ rfl (World.news_of_block (cs := #[.string p.1, .int .i64 p.2]) (t := 104) (fr := (0, 0)) hb) (by simp [Value.oneCell'])) (by unfold maxLen; omega) (by omega) ?_
  intro v' w' hown hg hb
  refine h v' w' ?_ ((Chg.refl _ _).grown' hg) fun k hk => ?_
  · unfold RNm
    rw [nmCells_snoc, List.length_append, List.length_singleton]
    exact hown
  · rcases hb with e | e
    · exact .inl (by rw [← e]; exact hk)
    · rw [e] at hk; injection hk with hk; right; omega
end
theorem ofNames_take (L : Names) (p : Nat) (hp : p < L.length) : ofNames (L.take p) ++ [(L[p].1, (L[p].2 : Int))] = ofNames (L.take (p + 1)) := by
  rw [List.take_succ_eq_append_getElem hp]
  simp only [ofNames, List.map_append, List.map_cons, List.map_nil]
theorem ofNames_at (L : Names) (p : Nat) (hp : p < L.length) : ofNames L = ofNames (L.take p) ++ (L[p].1, (L[p].2 : Int)) :: ofNames (L.drop (p + 1)) := by
  have e : L = L.take p ++ L[p] :: L.drop (p + 1) := by simp
  conv => lhs; rw [e]
  simp only [ofNames, List.map_append, List.map_cons]

set_option maxRecDepth 100000 in
set_option maxHeartbeats 4000000 in
theorem rd_fail (r : Nat) (D : DiskV) (y : RLay) (M : Nat → Prop) (names : Int) (bytes : List Int) (bv : Value) (hok : DiskOk D) (hsm : RSmall D) (hn1 : -9223372036854775808 ≤ names) (hn2 : names ≤ 9223372036854775807) (w : World) (h : RIn w r D y M)
    (hbs : ∀ W, Chg (fun k => k = r ∨ y.fv.ownBlock = some k) w W → RInts W bv bytes) :
    Calls Tryz.prog 58 #[.pointer (some ⟨r, 0, none⟩), .int .i64 names, bv] w fun e w' => e = .returned (.tuple #[]) ∧ (∃ y', RIn w' r (failD D names bytes) y' (Mx M w w')) ∧ Chg M w w' := by
  obtain ⟨_, _, _, c3, c4, _⟩ := rin_cells h
  have hrl := h.blk.lt
  obtain ⟨qa, qc, hqv, hqcap, hqn, hqread⟩ := h.parts.queue.own.reads
  obtain ⟨r0, r1⟩ := restI_bd (n := names) (b := (D.queue.length : Int) + 1) (by omega)
  obtain ⟨K, hK⟩ : ∃ K : Nat, restI names ((D.queue.length : Int) + 1) = K := ⟨_, (Int.toNat_of_nonneg r0).symm⟩
  have hrest := fun W => rd_rest names ((D.queue.length : Int) + 1) (by omega) (by have := hsm.q; omega) hn1 hn2 W
  rw [hK] at hrest r1
  have hKl : K ≤ D.queue.length := by omega
  have hql : (D.queue.length : Int) ≤ 1000000 := by have := hsm.q; omega
  obtain ⟨ba, bc, rfl, hbn, hbr, _⟩ := hbs w (Chg.refl _ _)
  have H := Lib.hid h
  have HB := Lib.hid hbs
  have HR := Lib.hid hrest
  have HK := Lib.hid hK
  have HOK := Lib.hid hok
  have HSM := Lib.hid hsm
  have HBR := Lib.hid hbr
  rw [hqv] at c4
  have HQV := Lib.hid hqv
  have HQR := Lib.hid hqread
  clear h hbs hrest hK hok hqv hqread hbr hsm r1
  go_enter Tryz.func58, Tryz.ntmps58
  go_wp2_with fail
  refine (HR.out _).mono ?_
  rintro e w' ⟨rfl, rfl⟩
  go_wp2_with fail
  go_loopw [7] (fun i wr => ∃ (p : Nat) (lv : Value), p ≤ K ∧ i = .int .i64 p ∧ RIn wr r { D with lasts := doAll D.lasts (D.queue.take p) } { y with lv := lv } (Mx M w wr) ∧ Chg (fun k => k = r) w wr) (fun i _ => K - (intOf i).toNat)
  case atStart => exact ⟨0, y.lv, by omega, rfl, by simpa [doAll] using H.out.more (fun k hk => .inl hk) (mx_lt H.out.lt (Nat.le_refl _)), Chg.refl _ _⟩
  case round =>
    obtain ⟨p, lv, hp, rfl, hin, hc1⟩ := hrel
    by_cases hlt : p < K
    · have hpq : p < D.queue.length := by omega
      have hlt' : (p : Int) < (K : Int) := by omega
      have hpq' : (p : Int) < (D.queue.length : Int) := by omega
      have hge' : (0 : Int) ≤ (p : Int) := by omega
      obtain ⟨v, e1, ho⟩ := hin.parts.queue.step p _ (List.getElem?_eq_getElem hpq)
      obtain ⟨qb, rfl, hqb, hqbo, hqcell⟩ := HQR.out (by omega)
      obtain ⟨_, _, _, c3', c4', _⟩ := rin_cells hin
      have hqr : ¬ qb = r := H.out.ne.2.2.2.1 qb hqbo
      have z0 := (hc1.cell (p := ⟨qb, p, none⟩) hqb hqr).trans (hqcell p v e1)
      have f3 := hin.blk.frozen 3
      have hrl1 := hin.blk.lt
      have hln := hin.parts.lasts
      obtain ⟨la, lc, hlv, _, hln2, _⟩ := rnm_form hln
      simp only at hlv
      subst hlv
      have hq4 : ({ y with lv := Value.slice la (ofNames (doAll D.lasts (D.queue.take p))).length lc } : RLay).qv = _ := HQV.out
      rw [hq4] at c4'
      simp only at c3'
      have hdl := doAll_len (D.queue.take p) (fun s hs => HSM.out.s s (List.mem_of_mem_take hs)) D.lasts
      have hsl := HSM.out.l
      have hs2 := HSM.out.s _ (List.getElem_mem hpq)
      have htl : (D.queue.take p).length ≤ p := by simp; omega
      have hall := rd_all (ofNames (doAll D.lasts (D.queue.take p))) (ofStep D.queue[p]) (.slice la (ofNames (doAll D.lasts (D.queue.take p))).length lc) v (by rw [ofNames_len, ofStep_len]; omega)
      rw [allR_eq] at hall
      have htk : doStep (doAll D.lasts (D.queue.take p)) D.queue[p] = doAll D.lasts (D.queue.take (p + 1)) := by
        rw [← doAll_snoc, List.take_succ_eq_append_getElem hpq]
      rw [htk] at hall
      have hall2 := fun W (hW : Chg (fun _ => False) wr W) => hall W (RNm.same hln hW) (RNm.same ho hW)
      have HALL := Lib.hid hall2
      have HIN := Lib.hid hin
      have HC1 := Lib.hid hc1
      have HLN := Lib.hid hln
      clear hall hall2 hc1 hln ho e1 htk hqcell hin hq4 hdl hs2 htl hln2
      generalize (ofNames (doAll D.lasts (D.queue.take p))).length = ll at *
      go_wp2_with fail
      go_region_law (first | (go_simp; go_at_call 110; refine (HALL.out _ (by ((repeat (first | exact Chg.refl _ _ | assumption | refine Chg.drewN ?_ _ | refine Chg.drew ?_ | refine Chg.alloc ?_ _ | refine Chg.setCell ?_ (by first | (simp; done) | (simp; omega) | (intro h; simp at h; omega)) _))))).mono ?_; rintro e w2 ⟨v2, rfl, hn2, hk2, hc2⟩; obtain ⟨a2, p2, rfl, _, _, _⟩ := rnm_form hn2; have f3' := (hc2.frozen (p := ⟨r, 3, none⟩) hrl1 (by simp)).trans f3; have c3'' := (hc2.cell (p := ⟨r, 3, none⟩) hrl1 (by simp)).trans c3'; have HN2 := Lib.hid hn2; have hk3 : ∀ k, _ → _ ∨ wr.heap.size ≤ k := hk2; have HK2 := Lib.hid hk3; have hc3 : Chg (fun _ => False) wr w2 := Chg.then (by ((repeat (first | exact Chg.refl _ _ | assumption | refine Chg.drewN ?_ _ | refine Chg.drew ?_ | refine Chg.alloc ?_ _ | refine Chg.setCell ?_ (by first | (simp; done) | (simp; omega) | (intro h; simp at h; omega)) _)))) hc2; have HC2 := Lib.hid hc3; clear hn2 hk2 hk3 hc2 hc3))
      all_goals
        obtain ⟨hst, hstc⟩ := HIN.out.stLasts HC2.out HN2.out (fun k hk => by
          rcases HK2.out k hk with e | e
          · exact .inl (HIN.out.mine k (.inr (.inr (.inr (.inl e)))))
          · exact .inr e)
        obtain ⟨w3, hw3⟩ : ∃ w3, w3 = w2.setCell ⟨r, 3, none⟩ (.slice a2 (ofNames (doAll D.lasts (D.queue.take (p + 1)))).length p2) := ⟨_, rfl⟩
        have hs3 : w3.heap.size = w2.heap.size := by rw [hw3]; simp [World.setCell]
        rw [← hw3] at hst hstc
        have hcw := HC1.out.then hstc
        have hs1 := HC1.out.size
        have hs2 := HC2.out.size
        have hfin := hst.more (N := Mx M w w3) (fun k hk => by
          have := mx_mx hs1 hs2 k hk
          rcases this with e | e
          · exact .inl e
          · exact .inr ⟨e.1, by omega⟩) (mx_lt H.out.lt hcw.size)
        have HFIN := Lib.hid hfin
        have HCW := Lib.hid hcw
        rw [← hw3]
        clear hst hstc hfin hcw HK2 HN2 HC2 HIN HC1 HLN HALL hw3 f3' c3'' c3' c4' z0 f3
        go_wp2_with fail
        exact ⟨⟨p + 1, _, by omega, by go_num, HFIN.out, HCW.out⟩, by simp [intOf]; omega⟩
    · obtain rfl : p = K := by omega
      have hge' : ¬ ((p : Int) < (p : Int)) := by omega
      obtain ⟨Lq, hLq⟩ : ∃ Lq, Lq = doAll D.lasts (D.queue.take p) := ⟨_, rfl⟩
      have hLl := doAll_len (D.queue.take p) (fun s hs => HSM.out.s s (List.mem_of_mem_take hs)) D.lasts
      have hsl := HSM.out.l
      have htl : (D.queue.take p).length ≤ p := by simp; omega
      rw [← hLq] at hin hLl
      have f4 := hin.blk.frozen 4
      have f2 := hin.blk.frozen 2
      obtain ⟨_, _, c2', c3', c4', _⟩ := rin_cells hin
      obtain ⟨la, lc, hlv, _, hln2, hlread⟩ := rnm_form hin.parts.lasts
      simp only at hlv
      subst hlv
      simp only [ofNames_len] at *
      obtain ⟨w5, hw5⟩ : ∃ w5, w5 = (wr.setCell ⟨r, 4, none⟩ (.slice none 0 0)).setCell ⟨r, 2, none⟩ (.slice none 0 0) := ⟨_, rfl⟩
      have hset : Chg (fun k => k = r) wr w5 := by rw [hw5]; exact Chg.setOwn (Chg.setOwn (Chg.refl _ _) _ _) _ _
      have hs5 : w5.heap.size = wr.heap.size := by rw [hw5]; simp [World.setCell]
      have hb5 : Blk w5 r 72 (rCells { D with lasts := Lq, queue := [], names := [] } { y with lv := .slice la Lq.length lc, qv := .slice none 0 0, qs := [], nv := .slice none 0 0 }) := by
        have := (hin.blk.set_ 4 (.slice none 0 0)).set_ 2 (.slice none 0 0)
        rw [hw5]
        simpa [rCells] using this
      have hp5 := hin.own hset
      have hI5 : RIn w5 r { D with lasts := Lq, queue := [], names := [] } { y with lv := .slice la Lq.length lc, qv := .slice none 0 0, qs := [], nv := .slice none 0 0 } (Mx M w wr) := by
        refine ⟨hb5, ⟨hp5.files, Own.nil _ _ _, hp5.lasts, ⟨Own.nil _ _ _, by simp⟩, hp5.cutb⟩, hin.cnb, ?_, fun k hk => by have := hin.lt k hk; omega⟩
        have hm := hin.mine
        rintro k (e | e | e | e | e | ⟨j, e⟩ | e)
        · exact hm k (.inl e)
        · exact hm k (.inr (.inl e))
        · simp [Value.ownBlock] at e
        · exact hm k (.inr (.inr (.inr (.inl e))))
        · simp [Value.ownBlock] at e
        · simp [blockAt] at e
        · exact hm k (.inr (.inr (.inr (.inr (.inr (.inr e))))))
      have hc5 := hc1.then hset
      have HI5 := Lib.hid hI5
      have HC5 := Lib.hid hc5
      have HW5 := Lib.hid hw5
      have HLQ := Lib.hid hLq
      have HLR := Lib.hid hlread
      have hs51 := hc1.size
      have HS5 := Lib.hid hs5
      have hLl2 : (Lq.length : Int) ≤ 3000000 := by omega
      clear hin hc1 hset hb5 hp5 hI5 hc5 hw5 hLq hLl hlread hs5 hln2
      go_wp2_with fail
      rw [← HW5.out]
      have hr5 := HI5.out.blk.lt
      clear f4 f2 c2' c3' c4' HW5
      go_loopw [8] (fun i wr2 => ∃ (q : Nat) (nv : Value), q ≤ Lq.length ∧ i = .int .i64 q ∧ RNm wr2 nv (ofNames (Lq.take q)) ∧ (∀ k, nv.ownBlock = some k → w5.heap.size ≤ k) ∧ Blk wr2 r 72 (rCells { D with lasts := Lq, queue := [] } { y with lv := .slice la Lq.length lc, qv := .slice none 0 0, qs := [], nv := nv }) ∧ Chg (fun k => k = r) w5 wr2) (fun i _ => Lq.length - (intOf i).toNat)
      case atStart => exact ⟨0, .slice none 0 0, by omega, rfl, Own.nil _ _ _, by simp [Value.ownBlock], HI5.out.blk, Chg.refl _ _⟩
      case round =>
        obtain ⟨q, nv, hq, rfl, hnm, hnk, hbl, hc2⟩ := hrel
        obtain ⟨na, nc, rfl, _, hnn, _⟩ := rnm_form hnm
        have hntl : (ofNames (Lq.take q)).length = q := by rw [ofNames_len]; simp; omega
        rw [hntl] at hbl hnk
        have hnm' : RNm wr (.slice na q nc) (ofNames (Lq.take q)) := by rw [hntl] at hnm; exact hnm
        have c2' := hbl.cell 2
        have c3' := hbl.cell 3
        have f2 := hbl.frozen 2
        simp [rCells] at c2' c3'
        have hrl2 := hbl.lt
        by_cases hlt2 : q < Lq.length
        · have hlt2' : (q : Int) < (Lq.length : Int) := by omega
          have hge2 : (0 : Int) ≤ (q : Int) := by omega
          obtain ⟨lb, rfl, hlb, hlbo, z0, z1⟩ := HLR.out _ _ _ (ofNames_at Lq q hlt2)
          rw [show (ofNames (Lq.take q)).length = q from hntl] at z0 z1
          have hlr : ¬ lb = r := by
            obtain ⟨cs, hb⟩ := Own.typed HI5.out.parts.lasts hlbo
            exact hb.ne_ HI5.out.blk (by decide)
          have hlb5 : lb < w5.heap.size := by have := HS5.out; omega
          have hset5 : Chg (fun k => k = r) w5 wr := hc2
          obtain ⟨e1, e2⟩ : w5.cell? ⟨lb, q * 2, none⟩ = some (.string Lq[q].1) ∧ w5.cell? ⟨lb, q * 2 + 1, none⟩ = some (.int .i64 (Lq[q].2 : Int)) := by
            obtain ⟨la', lc', he, _, _, hrd⟩ := rnm_form HI5.out.parts.lasts
            obtain ⟨lb', hb', _, _, y0, y1⟩ := hrd _ _ _ (ofNames_at Lq q hlt2)
            rw [hb'] at he
            injection he with he1 he2 he3
            injection he1 with he1
            injection he1 with he1
            subst he1
            rw [show (ofNames (Lq.take q)).length = q from hntl] at y0 y1
            exact ⟨y0, y1⟩
          have z0' := (hc2.cell (p := ⟨lb, q * 2, none⟩) hlb5 hlr).trans e1
          have z1' := (hc2.cell (p := ⟨lb, q * 2 + 1, none⟩) hlb5 hlr).trans e2
          have hnx := ofNames_take Lq q hlt2
          have hnr : ∀ k, (Value.slice na q nc).ownBlock = some k → k ≠ r := fun k hk => by
            obtain ⟨cs, hb⟩ := Own.typed hnm' hk
            exact hb.ne_ hbl (by decide)
          have HNM := Lib.hid hnm'
          have HNK := Lib.hid hnk
          have HBL := Lib.hid hbl
          have HC2 := Lib.hid hc2
          have HNX := Lib.hid hnx
          have HNR := Lib.hid hnr
          have hql2 : (ofNames (Lq.take q)).length ≤ 2000000000 := by omega
          clear hnm hnm' hnk hbl hc2 hset5 e1 e2 z0 z1 hnx hnr hntl
          generalize hq1 : Lq[q].1 = q1 at *
          generalize hq2 : (Lq[q].2 : Int) = q2 at *
          clear hq1 hq2
          go_wp2_with fail
          go_region_law ((refine step_rnm_append _ (by rfl) _ _ (by rfl) (ofNames (Lq.take q)) (.slice na q nc) (q1, q2) (by rfl) (HNM.out.same (by ((repeat (first | exact Chg.refl _ _ | assumption | refine Chg.drewN ?_ _ | refine Chg.drew ?_ | refine Chg.alloc ?_ _ | refine Chg.setCell ?_ (by first | (simp; done) | (simp; omega) | (intro h; simp at h; omega)) _))))) _ (by rfl) hql2 (by first | exact Blk.new _ _ _ | exact Blk.drew (Blk.new _ _ _)) ?_; intro v' w4 hO4 hg4 hb4; obtain ⟨a4, p4, rfl, _, _, _⟩ := rnm_form hO4; have hrn4 : ¬ (Value.slice na q nc).ownBlock = some r := fun e => HNR.out r e rfl; have hg4' : Chg (fun k => (Value.slice na q nc).ownBlock = some k) wr w4 := Chg.then (by ((repeat (first | exact Chg.refl _ _ | assumption | refine Chg.drewN ?_ _ | refine Chg.drew ?_ | refine Chg.alloc ?_ _ | refine Chg.setCell ?_ (by first | (simp; done) | (simp; omega) | (intro h; simp at h; omega)) _)))) hg4; have f4 := (hg4'.frozen (p := ⟨r, 2, none⟩) hrl2 hrn4).trans f2; have c4 := (hg4'.cell (p := ⟨r, 2, none⟩) hrl2 hrn4).trans c2'; have hb4' : ∀ k, (Value.slice a4 _ p4).ownBlock = some k → (Value.slice na q nc).ownBlock = some k ∨ wr.heap.size ≤ k := fun k hk => (hb4 k hk).imp id (fun e => by simp at e; omega); have HO4 := Lib.hid hO4; have HG4 := Lib.hid hg4'; have HB4 := Lib.hid hb4'; clear hO4 hg4 hb4 hb4' hg4'))
          all_goals
            obtain ⟨nl, hnl⟩ : ∃ nl, nl = (ofNames (Lq.take q)).length + 1 := ⟨_, rfl⟩
            have hO5 := HO4.out
            have hB4 := HB4.out
            rw [List.length_append, List.length_singleton, ← hnl] at hO5 hB4
            rw [HNX.out] at hO5
            rw [← hnl]
            obtain ⟨w6, hw6⟩ : ∃ w6, w6 = w4.setCell ⟨r, 2, none⟩ (.slice a4 nl p4) := ⟨_, rfl⟩
            have hset : Chg (fun k => k = r) w4 w6 := by rw [hw6]; exact Chg.setOwn (Chg.refl _ _) _ _
            have hbl4 := HBL.out.chg HG4.out hrn4
            have hO6 := RNm.chg hO5 hset (fun k hk e => by
              obtain ⟨cs, hb⟩ := Own.typed hO5 hk
              exact hb.ne_ hbl4 (by decide) e)
            have hbl6 : Blk w6 r 72 (rCells { D with lasts := Lq, queue := [] } { y with lv := .slice (some ⟨lb, 0, none⟩) Lq.length lc, qv := .slice none 0 0, qs := [], nv := .slice a4 nl p4 }) := by
              have := hbl4.set_ 2 (.slice a4 nl p4)
              rw [hw6]
              simpa [rCells] using this
            have hc6 : Chg (fun k => k = r) w5 w6 := (HC2.out.trans HG4.out (fun k hk e => by have := HNK.out k e; omega)).then hset
            have hs52 := HC2.out.size
            have hk6 : ∀ k, (Value.slice a4 nl p4).ownBlock = some k → w5.heap.size ≤ k := fun k hk => by
              rcases hB4 k hk with e | e
              · exact HNK.out k e
              · omega
            have HO6 := Lib.hid hO6
            have HBL6 := Lib.hid hbl6
            have HC6 := Lib.hid hc6
            have HK6 := Lib.hid hk6
            rw [← hw6]
            clear hO5 hB4 hset hbl4 hO6 hbl6 hc6 hk6 hw6 HB4 HG4 HO4 HBL HNK HNM f4 c4 hnl z0' z1' c2' c3' f2 hs52
            go_wp2_with fail
            exact ⟨⟨q + 1, _, by omega, by go_num, HO6.out, HK6.out, HBL6.out, HC6.out⟩, by simp [intOf]; omega⟩
        · obtain rfl : q = Lq.length := by omega
          have hge2 : ¬ ((Lq.length : Int) < (Lq.length : Int)) := by omega
          have hI6 : RIn wr r { D with lasts := Lq, queue := [], names := Lq } { y with lv := .slice la Lq.length lc, qv := .slice none 0 0, qs := [], nv := .slice na Lq.length nc } (Mx M w wr) := by
            have hp := HI5.out.own hc2
            rw [List.take_length] at hnm'
            have hs2 := hc2.size
            have hs5 := HS5.out
            refine ⟨hbl, ⟨hp.files, hnm', hp.lasts, hp.queue, hp.cutb⟩, HI5.out.cnb, ?_, mx_lt H.out.lt (by omega)⟩
            have hm := HI5.out.mine
            have hmm : ∀ (X : World), X.heap.size ≤ wr.heap.size → ∀ k, Mx M w X k → Mx M w wr k := fun X hX k hk => hk.imp id (fun e => ⟨e.1, by have := e.2; omega⟩)
            rintro k (e | e | e | e | e | e | e)
            · exact hmm _ (by omega) k (hm k (.inl e))
            · exact hmm _ (by omega) k (hm k (.inr (.inl e)))
            · exact .inr ⟨by have := hnk k e; omega, Own.lt hnm' e⟩
            · exact hmm _ (by omega) k (hm k (.inr (.inr (.inr (.inl e)))))
            · exact hmm _ (by omega) k (hm k (.inr (.inr (.inr (.inr (.inl e))))))
            · exact hmm _ (by omega) k (hm k (.inr (.inr (.inr (.inr (.inr (.inl e)))))))
            · exact hmm _ (by omega) k (hm k (.inr (.inr (.inr (.inr (.inr (.inr e)))))))
          have hcw : Chg (fun k => k = r ∨ y.fv.ownBlock = some k) w wr := (HC5.out.then hc2).mono fun k _ e => .inl e
          obtain ⟨M6, hM6⟩ : ∃ M6, M6 = Mx M w wr := ⟨_, rfl⟩
          have hM6' : ∀ k, M6 k → M k ∨ w.heap.size ≤ k := fun k hk => by rw [hM6] at hk; exact hk.imp id fun e => e.1
          rw [← hM6] at hI6
          obtain ⟨y6, hy6⟩ : ∃ y6, y6 = ({ y with lv := .slice la Lq.length lc, qv := .slice none 0 0, qs := [], nv := .slice na Lq.length nc } : RLay) := ⟨_, rfl⟩
          have hy6f : y6.fv = y.fv := by rw [hy6]
          rw [← hy6] at hI6
          have hMr : M r := H.out.mine r (.inl rfl)
          have hMf : ∀ k, y.fv.ownBlock = some k → M k := fun k hk => H.out.mine k (.inr (.inl hk))
          have HI6 := Lib.hid hI6
          have HCW := Lib.hid hcw
          have HM6 := Lib.hid hM6'
          have HY := Lib.hid hy6f
          have HMr := Lib.hid hMr
          have HMf := Lib.hid hMf
          clear hI6 hcw hM6 hM6' hy6 hy6f hMr hMf hnm hnm' hnk hbl hc2 HI5 HC5 HLR HS5 HSM HR
          go_wp2_with fail
          clear c2' c3' f2
          go_loopw [9] (fun i wr2 => ∃ q : Nat, q ≤ D.files.length ∧ i = .int .i64 q ∧ RIn wr2 r { D with lasts := Lq, queue := [], names := Lq, files := mixF bytes q D.files } y6 M6 ∧ Chg (fun k => k = r ∨ y.fv.ownBlock = some k) w wr2) (fun i _ => D.files.length - (intOf i).toNat)
          case atStart => exact ⟨0, by omega, rfl, by rw [mixF_zero]; exact HI6.out, HCW.out⟩
          case round =>
            obtain ⟨q, hqF, rfl, hin, hcw⟩ := hrel
            obtain ⟨_, c1, _⟩ := rin_cells hin
            obtain ⟨fa, fc, hfv, _, hfn, hfread⟩ := rfl_form hin.parts.files
            simp only [mixF_len] at hfv hfn hfread
            rw [hfv] at c1
            by_cases hlt2 : q < D.files.length
            · have hqi : (q : Int) < (D.files.length : Int) := by omega
              have hq0 : (0 : Int) ≤ (q : Int) := by omega
              obtain ⟨fb, rfl, hfb, hfo, z0, z1⟩ := hfread q hlt2
              have hmq : (mixF bytes q D.files)[q]'(by rw [mixF_len]; exact hlt2) = D.files[q] := by
                have := mixF_at bytes q D.files hlt2
                exact (List.getElem?_eq_some_iff.1 this).2
              rw [hmq] at z0 z1
              obtain ⟨fl0, fl1⟩ := HOK.out.file D.files[q] (List.getElem_mem hlt2)
              have hkeep := keepN_le bytes q D.files[q] fl0
              have hkp : keepN bytes q D.files[q] = (if bytes = [] then (0 : Int) else restI (bytes.getD (q % bytes.length) 0) ((D.files[q].data.size : Int) - D.files[q].lasts + 1)).toNat := rfl
              have hfb6 : y6.fv.ownBlock = some fb := by rw [hfv]; rfl
              have hfbo : y.fv.ownBlock = some fb := by rw [← HY.out]; exact hfb6
              have hkey : ∀ (m : Int) W W', m = ((D.files[q].lasts + keepN bytes q D.files[q] : Nat) : Int) → Chg (fun _ => False) wr W → Chg (fun _ => False) ((W.setCell ⟨fb, q * 2, none⟩ (.string (D.files[q].data.extract 0 (D.files[q].lasts + keepN bytes q D.files[q])))).setCell ⟨fb, q * 2 + 1, none⟩ (.int .i64 m)) W' →
                  RIn W' r { D with lasts := Lq, queue := [], names := Lq, files := mixF bytes (q + 1) D.files } y6 M6 ∧ Chg (fun k => k = r ∨ y.fv.ownBlock = some k) w W' := by
                rintro m W W' rfl hW hW'
                obtain ⟨g1, g2⟩ := hin.stFile hfb6 hW (i := q) (by simpa [mixF_len] using hlt2) (fileFix bytes q D.files[q])
                have g1' := g1.same hW'
                simp only [mixF_succ bytes q D.files hlt2] at g1'
                exact ⟨g1', hcw.trans (g2.then (hW'.mono (by simp))) (fun k _ e => .inr (by rw [e]; exact hfbo))⟩
              obtain ⟨_, _, hbe, _, hbr2, hbread⟩ := HB.out wr hcw
              injection hbe with hbe1 hbe2 hbe3
              subst hbe1 hbe3
              have hrlw := hin.blk.lt
              have f0 : wr.frozen? ⟨fb, q * 2, none⟩ = false := hin.parts.files.frozen hfb6 _
              have f1 : wr.frozen? ⟨fb, q * 2 + 1, none⟩ = false := hin.parts.files.frozen hfb6 _
              have HKEY := Lib.hid hkey
              have HKP := Lib.hid hkp
              have HBR2 := Lib.hid hbr2
              have HBREAD := Lib.hid hbread
              clear hkey hkp hbr2 hbread hcw hin hfread hmq hbe2 hfb6 hfbo hfv
              generalize D.files[q].data = dt at *
              generalize D.files[q].lasts = la2 at *
              generalize keepN bytes q D.files[q] = kp at *
              have hla : (0 : Int) ≤ (la2 : Int) := by omega
              have hlk : (la2 : Int) + (kp : Int) ≤ (dt.size : Int) := by omega
              have hlk0 : (0 : Int) ≤ (la2 : Int) + (kp : Int) := by omega
              have hlk2 : ((la2 : Int) + (kp : Int)).toNat = la2 + kp := by omega
              by_cases hbe : bytes = []
              · have hno : ¬ ((0 : Int) < (bytes.length : Int)) := by rw [hbe]; simp
                have hkp0 : kp = 0 := by rw [HKP.out, if_pos hbe]; rfl
                subst hkp0
                have hkey0 := HKEY.out
                simp only [Nat.add_zero] at hkey0
                have HKEY0 := Lib.hid hkey0
                clear hbe hkey0 HKEY
                go_wp2_with fail
                go_region
                all_goals
                  go_wp2_with fail
                  exact ⟨⟨q + 1, by omega, by go_num, (HKEY0.out _ wr _ rfl (Chg.refl _ wr) (by ((repeat (first | exact Chg.refl _ _ | assumption | refine Chg.drewN ?_ _ | refine Chg.drew ?_ | refine Chg.alloc ?_ _ | refine Chg.setCell ?_ (by first | (simp; done) | (simp; omega) | (intro h; simp at h; omega)) _))))).1, (HKEY0.out _ wr _ rfl (Chg.refl _ wr) (by ((repeat (first | exact Chg.refl _ _ | assumption | refine Chg.drewN ?_ _ | refine Chg.drew ?_ | refine Chg.alloc ?_ _ | refine Chg.setCell ?_ (by first | (simp; done) | (simp; omega) | (intro h; simp at h; omega)) _))))).2⟩, by simp [intOf]; omega⟩
              · have hpos : (0 : Int) < (bytes.length : Int) := by
                  have : bytes.length ≠ 0 := fun e => hbe (List.eq_nil_of_length_eq_zero e)
                  omega
                obtain ⟨bb, boff, hba, hbcell⟩ := HBREAD.out (by omega)
                subst hba
                obtain ⟨mq, hmq⟩ : ∃ mq, mq = q % bytes.length := ⟨_, rfl⟩
                have hml : mq < bytes.length := by rw [hmq]; exact Nat.mod_lt _ (by omega)
                have zb := hbcell mq _ (List.getElem?_eq_getElem hml)
                have hgd : bytes.getD mq 0 = bytes[mq] := by rw [List.getD_eq_getElem?_getD, List.getElem?_eq_getElem hml]; rfl
                obtain ⟨bx, hbx⟩ : ∃ bx, bx = bytes[mq] := ⟨_, rfl⟩
                rw [← hbx] at zb hgd
                have hbxb := HBR2.out bx (by rw [hbx]; exact List.getElem_mem hml)
                have hbbl := cell_lt zb
                simp only at hbbl
                have hkr : restI bx ((dt.size : Int) - la2 + 1) = (kp : Int) := by
                  have h0 := restI_bd (n := bx) (b := (dt.size : Int) - la2 + 1) (by omega)
                  rw [HKP.out, if_neg hbe, ← hmq, hgd]
                  omega
                have hrest2 := fun W => rd_rest bx ((dt.size : Int) - la2 + 1) (by omega) (by omega) hbxb.1 hbxb.2 W
                rw [hkr] at hrest2
                have hm1 : (q : Int) % (bytes.length : Int) = (mq : Int) := by rw [hmq]; simp
                have hm2 : (q : Int).tmod (bytes.length : Int) = (mq : Int) := by rw [hmq]; exact (Int.ofNat_tmod _ _).symm
                have hmi : (mq : Int) < (bytes.length : Int) := by omega
                have hm0 : (0 : Int) ≤ (mq : Int) := by omega
                have hkp0 : (0 : Int) ≤ (kp : Int) := by omega
                have hle1 : (dt.size : Int) ≤ 1048576 := by omega
                have hls : (la2 : Int) ≤ (dt.size : Int) := by omega
                have hw1 : IntKind.i64.wrap ((dt.size : Int) - la2) = (dt.size : Int) - la2 := IntWalk.i64_in _ (by omega)
                have hw2 : IntKind.i64.wrap ((dt.size : Int) - la2 + 1) = (dt.size : Int) - la2 + 1 := IntWalk.i64_in _ (by omega)
                have hw3 : IntKind.i64.wrap ((la2 : Int) + kp) = (la2 : Int) + kp := IntWalk.i64_in _ (by omega)
                have HR2 := Lib.hid hrest2
                clear hrest2 hkr hgd hbx hbcell hmq hbe
                go_wp2_with fail
                go_quiet (first | (go_at_call 109; exact quiet_same (HR2.out _)))
                clear hw1 hw2 hm1 hm2
                go_wp2_with fail
                clear hw3
                go_region
                all_goals
                  go_wp2_with fail
                  exact ⟨⟨q + 1, by omega, by go_num, (HKEY.out ((la2 : Int) + kp) _ _ (by omega) (by ((repeat (first | exact Chg.refl _ _ | assumption | refine Chg.drewN ?_ _ | refine Chg.drew ?_ | refine Chg.alloc ?_ _ | refine Chg.setCell ?_ (by first | (simp; done) | (simp; omega) | (intro h; simp at h; omega)) _)))) (Chg.refl _ _)).1, (HKEY.out ((la2 : Int) + kp) _ _ (by omega) (by ((repeat (first | exact Chg.refl _ _ | assumption | refine Chg.drewN ?_ _ | refine Chg.drew ?_ | refine Chg.alloc ?_ _ | refine Chg.setCell ?_ (by first | (simp; done) | (simp; omega) | (intro h; simp at h; omega)) _)))) (Chg.refl _ _)).2⟩, by simp [intOf]; omega⟩
            · have hqe : q = D.files.length := by omega
              rw [hqe, mixF_all] at hin
              have hge' : ¬ ((q : Int) < (D.files.length : Int)) := by omega
              obtain ⟨_, _, _, _, _, _, k6, _, _, k9⟩ := rin_cells hin
              have j6 := hin.blk.frozen 6
              have j9 := hin.blk.frozen 9
              have HIN := Lib.hid hin
              have HCW2 := Lib.hid hcw
              clear hin hcw hfread hfv
              go_wp2_with fail
              first | go_end0 | refine bodyPost_ret (results_none rfl _ _ _) rfl ?_
              obtain ⟨W5, hW5⟩ : ∃ W5, W5 = (wr.setCell ⟨r, 6, none⟩ (.int .i64 0)).setCell ⟨r, 9, none⟩ (.int .i64 0) := ⟨_, rfl⟩
              have hset : Chg (fun k => k = r) wr W5 := by rw [hW5]; exact Chg.setOwn (Chg.setOwn (Chg.refl _ _) _ _) _ _
              have hb5 := (HIN.out.blk.set_ 6 (.int .i64 0)).set_ 9 (.int .i64 0)
              rw [← hW5] at hb5
              have hfd : failD D names bytes = { D with lasts := Lq, names := Lq, queue := [], files := D.files.mapIdx (fileFix bytes), cutL := 0, cutN := 0, cutB := [], fullL := 0 } := by
                unfold failD
                rw [HK.out, HLQ.out]
                rfl
              have hfin := HIN.out.setR (D' := failD D names bytes) hset (by rw [hfd]; simpa [rCells] using hb5) (by rw [hfd]) (by rw [hfd]) (by rw [hfd]) (by rw [hfd])
              have hs0 := HCW2.out.size
              have hs1 := hset.size
              have hall := HCW2.out.trans hset (fun k _ e => .inl e)
              rw [← hW5]
              refine ⟨rfl, ⟨_, hfin.more (fun k hk => ?_) (mx_lt H.out.lt (by omega))⟩, hall.mono fun k _ e => ?_⟩
              · rcases HM6.out k hk with e | e
                · exact .inl e
                · exact .inr ⟨e, hfin.lt k hk⟩
              · rcases e with e | e
                · rw [e]; exact HMr.out
                · exact HMf.out k e
end Go.Proofs.YtjfbcjmnjlehaaaGreatDoor
