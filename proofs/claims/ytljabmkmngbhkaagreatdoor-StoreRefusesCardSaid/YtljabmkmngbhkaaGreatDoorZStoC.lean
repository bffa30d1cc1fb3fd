/-
  Items are in memory: the walk of put.
-/
import Derived.Test.YtljabmkmngbhkaaGreatDoorZMg27
import Derived.Deep.RegionHeld3
namespace Go.Proofs.YtljabmkmngbhkaaGreatDoor
open Go.RowKit
set_option linter.unusedVariables false
set_option linter.unusedSimpArgs false

def putS (S : StV) (l : List EntryV) : StV := { S with L := putLs S.L (numE (S.seq + 1) l), size := S.size + sumC (numE (S.seq + 1) l), seq := S.seq + (l.length : Int), B := (S.B.change 0 (S.size + sumC (numE (S.seq + 1) l))).2 }
/-- What a call of the store leaves: the same store, perhaps other blocks. -/
def SPost (w0 : World) (p : StP) (F : CfgV) (S : StV) (w' : World) : Prop := ∃ p' Y', p'.s = p.s ∧ p'.b = p.b ∧ StAt w0 w' p' Y' F S
theorem cache_off {w : World} {c b m : Nat} {B : Bud} (h : CacheAt w c b m [] B) {k : Nat} {t : TypeId} {cs : Array Value} (hb : Blk w k t cs) (ht : t ≠ 143 ∧ t ≠ 137) : ¬ FootC c b m [] k := by
  obtain ⟨n, f, hm, _⟩ := h.map
  rintro (rfl | rfl | rfl | ⟨y, hy, _⟩)
  · exact hb.ne_ h.ring.blk ht.1 rfl
  · exact hb.ne_ h.bud.blk ht.2 rfl
  · exact hb.ne_map hm rfl
  · simp at hy
theorem numE_split {q : Int} {l A R : List EntryV} {x : EntryV} (h : numE q l = A ++ x :: R) : ∃ e ∈ l, x = { e with seq := q + (A.length : Int) } := by
  have h1 : (numE q l)[A.length]? = some x := by rw [h]; simp
  unfold numE at h1
  rw [List.getElem?_mapIdx] at h1
  obtain ⟨e, he, hx⟩ := Option.map_eq_some_iff.1 h1
  exact ⟨e, List.mem_of_getElem? he, hx.symm⟩
theorem numE_low {q : Int} {l A R : List EntryV} (h : numE q l = A ++ R) : ∀ y ∈ A, y.seq < q + (A.length : Int) := by
  intro y hy
  obtain ⟨i, hi, rfl⟩ := List.getElem_of_mem hy
  have h1 : (numE q l)[i]? = some A[i] := by rw [h, List.getElem?_append_left hi]; simp
  unfold numE at h1
  rw [List.getElem?_mapIdx] at h1
  obtain ⟨e, he, hx⟩ := Option.map_eq_some_iff.1 h1
  rw [← hx]
  show q + (i : Int) < _
  omega
theorem putLs_mem : ∀ {A L : List EntryV} {m : EntryV}, m ∈ putLs L A → m ∈ L ∨ m ∈ A
  | [], L, m, h => .inl h
  | e :: A, L, m, h => by
    rcases putLs_mem (A := A) (L := putL L e) h with h | h
    · rcases putL_mem h with rfl | h
      · exact .inr (by simp)
      · exact .inl h
    · exact .inr (by simp [h])
def MemR (w1 : World) (p : StP) (S : StV) (A : List EntryV) (wr : World) : Prop :=
  ∃ N', SkipAt wr p.l p.hb (.slice none 0 0) [] N' (S.size + sumC A) ∧ N'.map (·.e) = putLs S.L A ∧ Chg (SkFoot p.l p.hb p.N) w1 wr ∧ (∀ n ∈ N', n ∈ p.N ∨ (w1.heap.size ≤ n.b ∧ w1.heap.size ≤ n.nb)) ∧ N'.length = p.N.length + A.length
theorem mem_step {w1 wr W w' : World} {p : StP} {S : StV} {A : List EntryV} {x : EntryV} {N' : List NodeV} {e : Ending} (hent : N'.map (·.e) = putLs S.L A) (hc : Chg (SkFoot p.l p.hb p.N) w1 wr) (hnew : ∀ n ∈ N', n ∈ p.N ∨ (w1.heap.size ≤ n.b ∧ w1.heap.size ≤ n.nb)) (hlen : N'.length = p.N.length + A.length) (hW : Chg (fun _ => False) wr W)
    (h : PutPost W p.l p.hb (.slice none 0 0) [] N' (S.size + sumC A) x e w') : MemR w1 p S (A ++ [x]) w' := by
  obtain ⟨n, h1, h2, h3, h4, _, h5, h6⟩ := h
  have hs : w1.heap.size ≤ W.heap.size := Nat.le_trans hc.size hW.size
  refine ⟨putN N' n, ?_, ?_, ?_, fun m hm => ?_, ?_⟩
  · rw [sumC_snoc]
    have e1 : n.h = 1 := by rw [h2]; rfl
    rw [e1] at h5
    have e2 : S.size + (sumC A + costE 1 x) = S.size + sumC A + costE 1 x := by omega
    rw [e2]
    exact h5
  · rw [putN_map, hent, h1, putLs_snoc]
  · refine (hc.trans hW fun k _ f => f.elim).trans h6 fun k hk hf => ?_
    rcases hf with rfl | rfl | ⟨m, hm, hk'⟩
    · exact .inl rfl
    · exact .inr (.inl rfl)
    · rcases hnew m hm with hm | ⟨m1, m2⟩
      · exact .inr (.inr ⟨m, hm, hk'⟩)
      · rcases hk' with rfl | rfl <;> omega
  · unfold putN at hm
    rcases List.mem_append.1 hm with hm | hm
    · exact hnew m (mem_ahead hm)
    · rcases List.mem_cons.1 hm with rfl | hm
      · exact .inr ⟨by omega, by omega⟩
      · exact hnew m (mem_behind hm)
  · rw [putN_len, hlen, List.length_append, List.length_singleton]
    omega
theorem put_fin {w0 w w1 wr w3 w4 : World} {p : StP} {Y : Nat → Prop} {F : CfgV} {S : StV} {l E : List EntryV} {N' : List NodeV} (h : StAt w0 w p Y F S) (hc1 : Chg (fun _ => False) w w1) (hsk : SkipAt wr p.l p.hb (.slice none 0 0) [] N' (S.size + sumC E)) (hent : N'.map (·.e) = putLs S.L E)
    (hcr : Chg (SkFoot p.l p.hb p.N) w1 wr) (hnew : ∀ n ∈ N', n ∈ p.N ∨ (w1.heap.size ≤ n.b ∧ w1.heap.size ≤ n.nb)) (hE : numE (S.seq + 1) l = E) (hl : l.length ≤ 64) (hq : S.seq ≤ 999999999000) (hc3 : Chg (fun k => k = p.s) wr w3)
    (hb3 : Blk w3 p.s 86 (stCells p.d p.b p.c p.l p.sv F (putS S l))) (hbud : BudAt w4 p.b (putS S l).B) (hc4 : Chg (fun k => k = p.b) w3 w4) : SPost w0 p F (putS S l) w4 := by
  have hs1 := h.skip.same hc1
  have tS : ∀ {k : Nat} {t : TypeId} {cs : Array Value}, Blk w k t cs → t ≠ 148 ∧ t ≠ 194 ∧ t ≠ 146 → ¬ SkFoot p.l p.hb p.N k := fun hb ht => h.skip.off hb ht
  have hC : Chg (fun k => SkFoot p.l p.hb p.N k ∨ k = p.s ∨ k = p.b) w w4 :=
    (((hc1.mono fun _ _ f => f.elim).trans hcr fun k _ e => .inl e).trans hc3 fun k _ e => .inr (.inl e)).trans hc4 fun k _ e => .inr (.inr e)
  have hC3 : Chg (fun k => SkFoot p.l p.hb p.N k ∨ k = p.s) w w3 :=
    ((hc1.mono fun _ _ f => f.elim).trans hcr fun k _ e => .inl e).trans hc3 fun k _ e => .inr e
  have footSk : ∀ k, FootC p.c p.b p.m [] k → ¬ (SkFoot p.l p.hb p.N k ∨ k = p.s) := fun k hk e => by
    rcases e with e | rfl
    · obtain ⟨t, cs, hb, ht⟩ := h.skip.foot_typed e
      exact cache_off h.cache hb (by rcases ht with rfl | rfl | rfl <;> decide) hk
    · exact cache_off h.cache h.blk (by decide) hk
  have hdy := h.disk.other hC fun k _ e => by
    rcases e with e | rfl | rfl
    · exact h.foot k (.inr (.inr (.inl e)))
    · exact h.foot _ (.inl rfl)
    · exact h.foot _ (.inr (.inl (.inr (.inl rfl))))
  have hw0 := h.disk.frame.size
  have hz := hC.size
  have hsk4 : SkipAt w4 p.l p.hb (.slice none 0 0) [] N' (S.size + sumC E) := by
    have h3 : SkipAt w3 p.l p.hb (.slice none 0 0) [] N' (S.size + sumC E) := hsk.chg hc3 (fun k hk e => by
      subst e
      have hs0 : Blk wr p.s 86 _ := (h.blk.chg hc1 (by simp)).chg hcr (hs1.off (h.blk.chg hc1 (by simp)) (by decide))
      exact hsk.off hs0 (by decide) hk) (by simp)
    have hb3' : BudAt w3 p.b _ := (h.cache.chg hC3 footSk).bud
    exact h3.chg hc4 (fun k hk e => by subst e; exact h3.off hb3'.blk (by decide) hk) (by simp)
  have hsb : p.s ≠ p.b := h.blk.ne_ h.cache.bud.blk (by decide)
  have hE2 : (putS S l).L = putLs S.L E ∧ (putS S l).size = S.size + sumC E := by unfold putS; rw [hE]; exact ⟨rfl, rfl⟩
  have hEl : E.length = l.length := by rw [← hE]; exact numE_len _ _
  refine ⟨{ p with N := N' }, fun k => Y k ∨ (w.heap.size ≤ k ∧ k < w4.heap.size), rfl, rfl, ?_⟩
  exact {
    blk := hb3.chg hc4 hsb
    disk := hdy
    cache := cache_change (h.cache.chg hC3 footSk) hbud hc4 (change_b _ _)
    skip := by rw [hE2.2]; exact hsk4
    ent := by rw [hE2.1]; exact hent
    snaps := h.snaps.chg hC fun k hk e => by
      obtain ⟨cs, hb⟩ := h.snaps.typed hk
      have hb : Blk w k 2 cs := hb
      rcases e with e | rfl | rfl
      · exact tS hb (by decide) e
      · exact hb.ne_ h.blk (by decide) rfl
      · exact hb.ne_ h.cache.bud.blk (by decide) rfl
    foot := fun k hk => by
      rcases hk with e | e | e | e
      · exact ⟨.inl (h.foot k (.inl e)).1, (h.foot k (.inl e)).2⟩
      · exact ⟨.inl (h.foot k (.inr (.inl e))).1, (h.foot k (.inr (.inl e))).2⟩
      · have hlt := hsk4.lt k e
        rcases e with e | e | ⟨n, hn, e⟩
        · exact ⟨.inl (h.foot k (.inr (.inr (.inl (.inl e))))).1, (h.foot k (.inr (.inr (.inl (.inl e))))).2⟩
        · exact ⟨.inl (h.foot k (.inr (.inr (.inl (.inr (.inl e)))))).1, (h.foot k (.inr (.inr (.inl (.inr (.inl e)))))).2⟩
        · rcases hnew n hn with hn | ⟨n1, n2⟩
          · exact ⟨.inl (h.foot k (.inr (.inr (.inl (.inr (.inr ⟨n, hn, e⟩)))))).1, (h.foot k (.inr (.inr (.inl (.inr (.inr ⟨n, hn, e⟩)))))).2⟩
          · have := hc1.size
            rcases e with rfl | rfl
            · exact ⟨.inr ⟨by omega, hlt⟩, by omega⟩
            · exact ⟨.inr ⟨by omega, hlt⟩, by omega⟩
      · exact ⟨.inl (h.foot k (.inr (.inr (.inr e)))).1, (h.foot k (.inr (.inr (.inr e)))).2⟩
    low := fun m hm => by
      rw [hE2.1] at hm
      show m.seq ≤ S.seq + (l.length : Int)
      rcases putLs_mem hm with hm | hm
      · have := h.low m hm; omega
      · have := numE_low (R := []) (by rw [hE]; simp) m hm
        omega
    sq := by
      have := h.sq
      show 0 ≤ S.seq + (l.length : Int) ∧ S.seq + (l.length : Int) ≤ 1000000000000
      omega
    nw := h.nw }
set_option maxRecDepth 100000 in
set_option maxHeartbeats 4000000 in
theorem st_put (w0 w : World) (p : StP) (Y : Nat → Prop) (F : CfgV) (S : StV) (h : StAt w0 w p Y F S) (v : Value) (l : List EntryV) (hv : Lst entC w v l) (hl : l.length ≤ 64) (hg : ∀ e ∈ l, goodI e = 0 ∧ EntFit e) (hN : S.L.length ≤ 1000000) (hq : S.seq ≤ 999999999000) :
    Calls Tryz.prog 41 #[.pointer (some ⟨p.s, 0, none⟩), v] w fun e w' => e = .returned (.tuple #[]) ∧ SPost w0 p F (putS S l) w' := by
  have hnum := ba_number v l (S.seq + 1) (by have := h.sq; omega) (by have := h.sq; omega) (by omega) w hv
  obtain ⟨a, cap, rfl, _, _, _⟩ := ent_form hv
  have y28 := h.blk.cell 28
  have y12 := h.blk.cell 12
  have y10 := h.blk.cell 10
  simp [stCells] at y28 y12 y10
  have hadd := IntWalk.i64_in (S.seq + 1) (by have := h.sq; omega)
  have hsq := h.sq
  obtain ⟨E, hE⟩ : ∃ E, numE (S.seq + 1) l = E := ⟨_, rfl⟩
  have hEl : E.length = l.length := by rw [← hE]; exact numE_len _ _
  have hpN : p.N.length ≤ 1000000 := by rw [← List.length_map (f := fun x : NodeV => x.e), h.ent]; exact hN
  unfold NumbrPost at hnum
  rw [hE] at hnum
  have HNUM := Lib.hid hnum
  have H := Lib.hid h
  have HG := Lib.hid hg
  have HE := Lib.hid hE
  have HEL := Lib.hid hEl
  clear hnum h hg hE hEl
  clear hv
  go_enter Tryz.func41, Tryz.ntmps41
  go_wp2_with fail
  refine HNUM.out.mono ?_
  rintro e w1 ⟨v2, rfl, hL2, hown2, hc1⟩
  obtain ⟨a2, cap2, rfl, _, _, hr2⟩ := ent_form hL2
  have hS1 := H.out.skip.same hc1
  have HL2 := Lib.hid hL2
  have HOWN2 := Lib.hid hown2
  have HC1 := Lib.hid hc1
  have HS1 := Lib.hid hS1
  clear hL2 hown2 hc1 hS1
  clear y28 y10 hr2
  have y12 := ky_chg HC1.out y12
  go_wp2_with fail
  go_loopw [14] (fun i wr => ∃ A R, E = A ++ R ∧ i = .int .i64 (A.length : Int) ∧ MemR w1 p S A wr) (fun i _ => E.length - (intOf i).toNat)
  case atStart => exact ⟨[], E, rfl, rfl, p.N, by simpa [sumC] using HS1.out, by rw [H.out.ent]; rfl, Chg.refl _ _, fun n hn => .inl hn, by simp⟩
  case round =>
    obtain ⟨A, R, hl', rfl, N', hsk, hent, hcr, hnew, hlen⟩ := hrel
    have hAl : A.length ≤ E.length := by rw [hl']; simp
    have y12r : wr.cell? ⟨p.s, 12, none⟩ = some (.pointer (some ⟨p.l, 0, none⟩)) := by
      have hb : Blk w1 p.s 86 _ := H.out.blk.chg HC1.out (by simp)
      exact (hcr.cell (p := ⟨p.s, 12, none⟩) hb.lt (HS1.out.off hb (by decide))).trans y12
    cases R with
    | nil =>
      have hlt : ¬ ((A.length : Int) < (E.length : Int)) := by rw [hl']; simp
      have hEA : E = A := by rw [hl']; simp
      subst hEA
      have hs1 : Blk w1 p.s 86 _ := H.out.blk.chg HC1.out (by simp)
      have hsr : Blk wr p.s 86 _ := hs1.chg hcr (HS1.out.off hs1 (by decide))
      have y28r := hsr.cell 28
      have y10r := hsr.cell 10
      have f28 := hsr.frozen 28
      simp [stCells] at y28r y10r
      have hadd2 := IntWalk.i64_in (S.seq + (l.length : Int)) (by omega)
      obtain ⟨w3, hw3⟩ : ∃ w3, w3 = wr.setCell ⟨p.s, 28, none⟩ (.int .i64 (S.seq + (l.length : Int))) := ⟨_, rfl⟩
      have hc3 : Chg (fun k => k = p.s) wr w3 := by rw [hw3]; exact Chg.setCell (S := fun k => k = p.s) (Chg.refl _ _) (p := ⟨p.s, 28, none⟩) (fun _ => rfl) _
      have hs3 := hsr.set_ 28 (.int .i64 (S.seq + (l.length : Int)))
      rw [← hw3] at hs3
      have y10 := hs3.cell 10
      have y12' := hs3.cell 12
      simp [stCells] at y10 y12'
      have hsk3 : SkipAt w3 p.l p.hb (.slice none 0 0) [] N' (S.size + sumC E) := hsk.chg hc3 (fun k hk e => by subst e; exact hsk.off hsr (by decide) hk) (by simp)
      have hbu : BudAt w3 p.b S.B := by
        have hb1 := H.out.cache.bud.chg HC1.out (by simp)
        have hb2 := hb1.chg hcr (HS1.out.off hb1.blk (by decide))
        exact hb2.chg hc3 (fun e => hb2.blk.ne_ hsr (by decide) e)
      obtain ⟨sz0, sz1⟩ := hsk.sz
      have hszc := fun W (hW : Chg (fun _ => False) w3 W) => sk_size p.l p.hb (.slice none 0 0) [] N' (S.size + sumC E) W (hsk3.same hW)
      have hch := fun W (hW : Chg (fun _ => False) w3 W) => bud_change p.b S.B 0 (S.size + sumC E) W (hbu.chg hW (by simp)) (by have h1 := hlen; have h2 := HEL.out; omega)
      have hfin : ∀ W w4, Chg (fun _ => False) w3 W → BudAt w4 p.b (S.B.change 0 (S.size + sumC E)).2 → Chg (fun k => k = p.b) W w4 → SPost w0 p F (putS S l) w4 := fun W w4 hW hb4 hc4 => by
        refine put_fin H.out HC1.out hsk hent hcr hnew HE.out hl (by omega) (hc3.trans hW fun _ _ f => f.elim) ?_ ?_ hc4
        · have h9 : Blk w3 p.s 86 (stCells p.d p.b p.c p.l p.sv F (putS S l)) := by simpa [stCells, putS] using hs3
          exact h9.chg hW (by simp)
        · unfold putS
          rw [HE.out]
          exact hb4
      have hkp : ∀ W w7, Chg (fun _ => False) w3 W → Chg (fun k => k = p.b) W w7 → w7.cell? ⟨p.s, 10, none⟩ = some (.pointer (some ⟨p.b, 0, none⟩)) ∧ w7.cell? ⟨p.s, 12, none⟩ = some (.pointer (some ⟨p.l, 0, none⟩)) := fun W w7 hW h7 => by
        have h9 := (hs3.chg hW (by simp)).chg h7 (fun e => hs3.ne_ hbu.blk (by decide) e)
        have z10 := h9.cell 10
        have z12 := h9.cell 12
        simp [stCells] at z10 z12
        exact ⟨z10, z12⟩
      obtain ⟨zs, hzs⟩ : ∃ zs, S.size + sumC E = zs := ⟨_, rfl⟩
      rw [hzs] at hszc hch hfin
      have HSZC := Lib.hid hszc
      have HCH := Lib.hid hch
      have HFIN := Lib.hid hfin
      have HW3 := Lib.hid hw3
      have HKP := Lib.hid hkp
      clear hszc hch hfin hw3 hkp
      clear hsk hent hcr hnew hlen hl' hs3 hc3 hsk3 hbu hs1 hsr y12r hzs sz0 sz1 y12
      have hEl := HEL.out
      have HEL3 := Lib.hid hEl
      clear hEl
      go_upto_region 6 with fail
      rw [← HW3.out]
      clear y28r y10r f28
      go_region_held3 (fun w' => w'.cell? ⟨p.s, 10, none⟩ = some (.pointer (some ⟨p.b, 0, none⟩)) ∧ w'.cell? ⟨p.s, 12, none⟩ = some (.pointer (some ⟨p.l, 0, none⟩)))
        ((go_split_ands; (repeat' (with_reducible refine And.intro ?_ ?_)) <;> (first | with_reducible assumption | exact ky_drew (by assumption))))
        (first | (go_at_call 35; refine (HSZC.out _ cgS).mono ?_; rintro r w6 ⟨rfl, rfl⟩) | (go_at_call 96; refine (HCH.out _ cgS).mono ?_; rintro r w7 ⟨rfl, hb7, hc7⟩; have hf7 := HFIN.out _ w7 cgS hb7 hc7; obtain ⟨u10, u12⟩ := HKP.out _ w7 cgS hc7))
      have HF7 := Lib.hid hf7
      clear hf7
      clear hb7 hc7 u10 u12
      go_wp2_with fail
      go_end0
      exact ⟨rfl, HF7.out⟩
    | cons x R =>
      have hlt : (A.length : Int) < (E.length : Int) := by rw [hl']; simp; omega
      have hLr : Lst entC wr (.slice a2 E.length cap2) E := HL2.out.chg hcr fun k hk => by
        obtain ⟨cs, hb⟩ := HL2.out.typed hk
        exact HS1.out.off hb (by decide)
      obtain ⟨a3, cap3, ea, _, _, hr3⟩ := ent_form hLr
      injection ea with ea1 ea2 ea3
      subst ea1 ea3
      obtain ⟨b, rfl, hb, _, z0, z1, z2, z3, z4⟩ := hr3 A x R hl'
      obtain ⟨e0, he0, hx⟩ := numE_split (HE.out.trans hl')
      obtain ⟨hg0, hf0⟩ := HG.out e0 he0
      have hqs := hsq
      have hgx : goodK x = 0 := by rw [hx]; exact goodK_seq hg0 (by omega)
      have hfx : EntFit x := by rw [hx]; exact ⟨hf0.k, by have h1 := HEL.out; constructor <;> simp only <;> omega, hf0.v, hf0.t⟩
      have hlow := numE_low (HE.out.trans hl')
      have hxs : x.seq = S.seq + 1 + (A.length : Int) := by rw [hx]
      have hne : ∀ m ∈ N', cmpE m.e x ≠ 0 := fun m hm h0 => by
        obtain ⟨_, hs⟩ := cmpE_zero.1 h0
        have hm' : m.e ∈ putLs S.L A := by rw [← hent]; exact List.mem_map.2 ⟨m, hm, rfl⟩
        rcases putLs_mem hm' with hm' | hm'
        · have := H.out.low _ hm'
          omega
        · have := hlow _ hm'
          omega
      obtain ⟨bx, hbx⟩ : ∃ bx, wr.heap.size = bx := ⟨_, rfl⟩
      obtain ⟨W, hW⟩ : ∃ W, W = wr.alloc (.cells #[.string x.key, .int .i64 x.seq, .bool x.gone, .string x.value, .int .i64 x.till] 41) := ⟨_, rfl⟩
      have hcW : Chg (fun _ => False) wr W := by rw [hW]; exact (Chg.refl _ _).alloc _
      have hbW : Blk W bx 41 #[.string x.key, .int .i64 x.seq, .bool x.gone, .string x.value, .int .i64 x.till] := by rw [hW, ← hbx]; exact Blk.new _ _ _
      have hput := fun W2 (hW2 : Chg (fun _ => False) W W2) => sk_put p.l p.hb (.slice none 0 0) [] N' (S.size + sumC A) x hgx hfx hne (by rw [hlen]; have h1 := HEL.out; have h2 := hl; omega) W2 (hsk.same (hcW.then hW2))
      have hstep := fun W2 (hW2 : Chg (fun _ => False) W W2) e w' => mem_step (e := e) (w' := w') (x := x) hent hcr hnew hlen (hcW.then hW2)
      have hl2 : E = (A ++ [x]) ++ R := by rw [hl']; simp
      have hge : (0 : Int) ≤ (A.length : Int) := by omega
      have y12W := ky_chg hcW y12r
      have x0 := hbW.cell 0
      have x1 := hbW.cell 1
      have x2 := hbW.cell 2
      have x3 := hbW.cell 3
      have x4 := hbW.cell 4
      simp at x0 x1 x2 x3 x4
      have hcells : ∀ W2 w6, Chg (fun _ => False) W W2 → Chg (SkFoot p.l p.hb N') W2 w6 → w6.cell? ⟨p.s, 12, none⟩ = some (.pointer (some ⟨p.l, 0, none⟩)) ∧ w6.cell? ⟨bx, 0, none⟩ = some (.string x.key) ∧ w6.cell? ⟨bx, 1, none⟩ = some (.int .i64 x.seq) ∧ w6.cell? ⟨bx, 2, none⟩ = some (.bool x.gone) ∧ w6.cell? ⟨bx, 3, none⟩ = some (.string x.value) ∧ w6.cell? ⟨bx, 4, none⟩ = some (.int .i64 x.till) := fun W2 w6 h2 h6 => by
        have hk2 := hsk.same (hcW.then h2)
        have hb2 := hbW.chg h2 (by simp)
        have hb6 := hb2.chg h6 (hk2.off hb2 (by decide))
        have hs1 : Blk w1 p.s 86 _ := H.out.blk.chg HC1.out (by simp)
        have hs2 := (hs1.chg hcr (HS1.out.off hs1 (by decide))).chg (hcW.then h2) (by simp)
        have hs6 := hs2.chg h6 (hk2.off hs2 (by decide))
        exact ⟨hs6.cell 12, hb6.cell 0, hb6.cell 1, hb6.cell 2, hb6.cell 3, hb6.cell 4⟩
      have HW := Lib.hid hW
      have HCW := Lib.hid hcW
      have HBW := Lib.hid hbW
      have HPUT := Lib.hid hput
      have HSTEP := Lib.hid hstep
      have HL2' := Lib.hid hl2
      have HBX := Lib.hid hbx
      have HCELLS := Lib.hid hcells
      clear hW hcW hbW hput hstep hl2 hbx hcells
      clear hl' hLr hr3 hb hx hne hgx hfx hlow hsk hent hcr hnew hlen ea2 he0 hg0 hf0 hxs hqs
      go_upto_region 3 with fail
      rw [HBX.out]
      rw [← HW.out]
      go_region_held3 (fun w' => w'.cell? ⟨p.s, 12, none⟩ = some (.pointer (some ⟨p.l, 0, none⟩)) ∧ w'.cell? ⟨bx, 0, none⟩ = some (.string x.key) ∧ w'.cell? ⟨bx, 1, none⟩ = some (.int .i64 x.seq) ∧ w'.cell? ⟨bx, 2, none⟩ = some (.bool x.gone) ∧ w'.cell? ⟨bx, 3, none⟩ = some (.string x.value) ∧ w'.cell? ⟨bx, 4, none⟩ = some (.int .i64 x.till))
        ((go_split_ands; (repeat' (with_reducible refine And.intro ?_ ?_)) <;> (first | with_reducible assumption | exact ky_drew (by assumption))))
        (first | (go_at_call 95; refine (HPUT.out _ cgS).mono ?_; rintro r w6 ⟨n, q1, q2, q3, q4, rfl, q6, q7⟩; have hst := HSTEP.out _ cgS _ _ ⟨n, q1, q2, q3, q4, rfl, q6, q7⟩; obtain ⟨r0, r1, r2, r3, r4, r5⟩ := HCELLS.out _ _ cgS q7))
      have HST := Lib.hid hst
      clear hst
      clear q2 q3 q4 q6 q7 r0 r1 r2 r3 r4 r5
      have hi := IntWalk.i64_in ((A.length : Int) + 1) (by omega)
      go_wp2_with fail
      go_roundw
      case rel => exact ⟨A ++ [x], R, HL2'.out, by simp, HST.out⟩
      case measure => simp [intOf]; omega
end Go.Proofs.YtljabmkmngbhkaaGreatDoor
