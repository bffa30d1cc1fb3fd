/-
  The disk: contract of do (names change).
-/
import Derived.Test.YtjfbcjmnjlehaaaGreatDoorDiskA
namespace Go.Proofs.YtjfbcjmnjlehaaaGreatDoor
open Go.RowKit
set_option linter.unusedVariables false
set_option linter.unusedSimpArgs false

theorem ntells_some {f : Value → Option Value} {ids : List Nat} {l : Names} (h : NTells f ids l) (n : ByteArray) : (f (.string n)).isSome = (look l n).isSome := by
  cases hl : look l n with
  | none => rw [ntells_miss h hl]; rfl
  | some i => rw [ntells_hit h hl]; rfl
theorem ntells_drop {f : Value → Option Value} {ids : List Nat} {l : Names} (h : NTells f ids l) (n : ByteArray) : NTells (upd f (.string n) none) ids (dropN n l) := by
  intro k v
  by_cases hk : k = .string n
  · subst hk
    rw [upd_same]
    constructor
    · intro e; cases e
    · rintro ⟨p, hp, e, _⟩
      injection e with e
      exact absurd e.symm (mem_dropN.1 hp).2
  · rw [upd_other _ _ hk, h k v]
    constructor
    · rintro ⟨p, hp, e1, e2⟩
      exact ⟨p, mem_dropN.2 ⟨hp, fun e => hk (by rw [e1, e])⟩, e1, e2⟩
    · rintro ⟨p, hp, e1, e2⟩
      exact ⟨p, (mem_dropN.1 hp).1, e1, e2⟩
theorem ntells_ins {f : Value → Option Value} {ids : List Nat} {l : Names} (h : NTells f ids l) (n : ByteArray) (i : Nat) : NTells (upd f (.string n) (some (fptr ids i))) ids (insN n i (dropN n l)) := by
  intro k v
  by_cases hk : k = .string n
  · subst hk
    rw [upd_same]
    constructor
    · intro e; cases e; exact ⟨_, mem_insN.2 (.inl rfl), rfl, rfl⟩
    · rintro ⟨p, hp, e, hv⟩
      rcases mem_insN.1 hp with rfl | hp
      · rw [hv]
      · injection e with e
        exact absurd e.symm (mem_dropN.1 hp).2
  · rw [upd_other _ _ hk, h k v]
    constructor
    · rintro ⟨p, hp, e1, e2⟩
      exact ⟨p, mem_insN.2 (.inr (mem_dropN.2 ⟨hp, fun e => hk (by rw [e1, e])⟩)), e1, e2⟩
    · rintro ⟨p, hp, e1, e2⟩
      rcases mem_insN.1 hp with rfl | hp
      · exact absurd e1 hk
      · exact ⟨p, (mem_dropN.1 hp).1, e1, e2⟩
theorem NTells.more {f : Value → Option Value} {ids ids' : List Nat} {l : Names} (h : NTells f ids l) (hp : ids <+: ids') (hl : ∀ p ∈ l, p.2 < ids.length) : NTells f ids' l := by
  obtain ⟨t, rfl⟩ := hp
  intro k v
  rw [h k v]
  constructor
  · rintro ⟨p, hpl, e1, e2⟩
    refine ⟨p, hpl, e1, ?_⟩
    rw [e2]; unfold fptr
    rw [List.getD_eq_getElem?_getD, List.getD_eq_getElem?_getD, List.getElem?_append_left (hl p hpl)]
  · rintro ⟨p, hpl, e1, e2⟩
    refine ⟨p, hpl, e1, ?_⟩
    rw [e2]; unfold fptr
    rw [List.getD_eq_getElem?_getD, List.getD_eq_getElem?_getD, List.getElem?_append_left (hl p hpl)]
theorem stepCells_len (ids : List Nat) (s : StepV) : (stepCells ids s).length = s.length * 2 := by
  induction s with
  | nil => rfl
  | cons x xs ih => simp [stepCells] at ih ⊢; omega
theorem stepCells_at (ids : List Nat) (A M : StepV) (c : ByteArray × Option Nat) : (stepCells ids (A ++ c :: M))[A.length * 2]? = some (.string c.1) ∧ (stepCells ids (A ++ c :: M))[A.length * 2 + 1]? = some (tgt ids c.2) := by
  have e : stepCells ids (A ++ c :: M) = stepCells ids A ++ ([.string c.1, tgt ids c.2] ++ stepCells ids M) := by simp [stepCells]
  have hl := stepCells_len ids A
  rw [e]
  refine ⟨?_, ?_⟩ <;> (rw [List.getElem?_append_right (by omega)]; rw [hl]; simp)
theorem doStep_snoc (l : Names) (A : StepV) (c : ByteArray × Option Nat) : doStep l (A ++ [c]) = doOne (doStep l A) c := by simp [doStep]

set_option maxRecDepth 100000 in
set_option maxHeartbeats 2000000 in
theorem disk_do (b : Nat) (ids : List Nat) (l : Names) (s : StepV) (v : Value) (k : Nat) (hl : NamesOk l k) (hs : StepOk s k) (w : World) (h : NMap w b ids l) (ho : Own w 135 2 v s.length (stepCells ids s)) :
    Calls Tryz.prog 135 #[.map (some b), v] w fun e w' => e = .returned (.tuple #[]) ∧ NMap w' b ids (doStep l s) ∧ Chg (fun j => j = b) w w' := by
  obtain ⟨a, cap, rfl, hcap, hn, hread⟩ := ho.reads
  have hbne : ∀ j, (Value.slice a s.length cap).ownBlock = some j → j ≠ b := fun j hj => by
    obtain ⟨cs, hb⟩ := ho.typed hj
    obtain ⟨_, _, hm, _⟩ := h
    exact hb.ne_map hm
  have H := Lib.hid h
  have HRD := Lib.hid hread
  have HBN := Lib.hid hbne
  have HL := Lib.hid hl
  have HS := Lib.hid hs
  clear h ho hread hbne hl hs
  go_enter Tryz.func135, Tryz.ntmps135
  go_wp2_with fail
  go_loopw [8] (fun i wr => ∃ A R, s = A ++ R ∧ i = .int .i64 A.length ∧ NMap wr b ids (doStep l A) ∧ Chg (fun j => j = b) w wr) (fun i _ => s.length - (intOf i).toNat)
  case atStart => exact ⟨[], s, rfl, rfl, H.out, Chg.refl _ _⟩
  case round =>
    obtain ⟨A, R, hs, rfl, hm, hc⟩ := hrel
    cases R with
    | nil =>
      have hge : ¬ ((A.length : Int) < (s.length : Int)) := by rw [hs]; simp
      rw [List.append_nil] at hs
      rw [← hs] at hm
      have HM := Lib.hid hm
      clear hs hm
      go_wp2_with fail
      first | go_end0 | refine bodyPost_ret (results_none rfl _ _ _) rfl ?_
      exact ⟨rfl, HM.out, hc⟩
    | cons c M =>
      obtain ⟨q0, q1⟩ := stepCells_at ids A M c
      rw [← hs] at q0 q1
      have hlt0 : A.length < s.length := by rw [hs]; simp
      have hlt : (A.length : Int) < (s.length : Int) := by omega
      have hge : (0 : Int) ≤ (A.length : Int) := by omega
      obtain ⟨bk, rfl, hbk, hob, hcell⟩ := HRD.out (by omega)
      have hbb := HBN.out bk hob
      have z0 := (hc.cell (p := ⟨bk, _, none⟩) hbk hbb).trans (hcell _ _ q0)
      have z1 := (hc.cell (p := ⟨bk, _, none⟩) hbk hbb).trans (hcell _ _ q1)
      have hcs := HS.out c (by rw [hs]; simp)
      have hok : NamesOk (doStep l A) k := HL.out.doStep (fun x hx => HS.out x (by rw [hs]; simp [hx]))
      obtain ⟨lk, hlk⟩ := skey_of c.1 (by have := hcs.1; unfold maxLen; omega)
      have hs2 : s = (A ++ [c]) ++ M := by rw [hs]; simp
      have HS2 := Lib.hid hs2
      obtain ⟨n, f, hmap, htl, hnl⟩ := hm
      have hlen := dropN_len (n := c.1) hok.one
      have hsome := ntells_some htl c.1
      have hbl := hmap.lt
      clear hs hs2 q0 q1 hcell hcs hok
      have hwr := hc.size
      cases hc2 : c.2 with
      | none =>
        rw [hc2, show tgt ids none = Value.pointer none from rfl] at z1
        obtain ⟨w4, hdel, hm4, hc4, hs4⟩ := (hmap.chg (S := fun _ => False) (w' := wr.alloc (.cells #[.string c.1, .pointer none] 135)) (by ((repeat (first | exact Chg.refl _ _ | assumption | refine Chg.drewN ?_ _ | refine Chg.drew ?_ | refine Chg.alloc ?_ _ | refine Chg.setCell ?_ (by first | (simp; done) | (simp; omega) | (intro h; simp at h; omega)) _)))) (by simp)).drop (ty := 0) skey_law Tryz.underlying61 hlk
        have hdel' : ∀ ty, (Builtin.delete_ #[61, 9] ty #[.map (some b), .string c.1]).run Tryz.prog (wr.alloc (.cells #[.string c.1, .pointer none] 135)) = .ok (.tuple #[]) w4 := fun ty => hdel
        have hfin : NMap w4 b ids (doStep l (A ++ [c])) := by
          refine ⟨_, _, hm4, ?_, ?_⟩
          · rw [doStep_snoc]; unfold doOne; rw [hc2]; exact ntells_drop htl c.1
          · rw [doStep_snoc]; unfold doOne; rw [hc2]
            simp only
            rw [hlen, hsome, hnl]
        have hcw : Chg (fun j => j = b) w w4 := (hc.alloc _).then hc4
        have HF := Lib.hid hfin
        have HC := Lib.hid hcw
        clear hdel hm4 hc4 hs4 hfin hcw hlk hmap htl hnl hlen hsome hc hc2
        go_wp2_with fail
        exact ⟨⟨A ++ [c], M, HS2.out, by simp, HF.out, HC.out⟩, by simp [intOf]; omega⟩
      | some i =>
        rw [hc2, show tgt ids (some i) = fptr ids i from rfl] at z1
        obtain ⟨w4, hup, hm4, hc4, hs4⟩ := (hmap.chg (S := fun _ => False) (w' := wr.alloc (.cells #[.string c.1, fptr ids i] 135)) (by ((repeat (first | exact Chg.refl _ _ | assumption | refine Chg.drewN ?_ _ | refine Chg.drew ?_ | refine Chg.alloc ?_ _ | refine Chg.setCell ?_ (by first | (simp; done) | (simp; omega) | (intro h; simp at h; omega)) _)))) (by simp)).store skey_law Tryz.underlying61 hlk (fptr ids i)
        have hfin : NMap w4 b ids (doStep l (A ++ [c])) := by
          refine ⟨_, _, hm4, ?_, ?_⟩
          · rw [doStep_snoc]; unfold doOne; rw [hc2]; exact ntells_ins htl c.1 i
          · rw [doStep_snoc]; unfold doOne; rw [hc2]
            simp only
            rw [insN_len, hlen, hsome, hnl]
            cases hlo : look (doStep l A) c.1 with
            | none => simp
            | some j =>
              have := List.length_pos_of_mem (look_some hlo)
              simp; omega
        have hcw : Chg (fun j => j = b) w w4 := (hc.alloc _).then hc4
        have HF := Lib.hid hfin
        have HC := Lib.hid hcw
        unfold fptr at z1 hup
        generalize ids.getD i 0 = q at z1 hup
        have hup' : (Instr.mapUpdate 61 (.map (some b)) (.string c.1) (.pointer (some ⟨q, 0, none⟩))).run Tryz.prog (wr.alloc (.cells #[.string c.1, .pointer (some ⟨q, 0, none⟩)] 135)) = .ok () w4 := hup
        clear hup hm4 hc4 hs4 hfin hcw hlk hmap htl hnl hlen hsome hc hc2
        go_wp2_with fail
        exact ⟨⟨A ++ [c], M, HS2.out, by simp, HF.out, HC.out⟩, by simp [intOf]; omega⟩
end Go.Proofs.YtjfbcjmnjlehaaaGreatDoor
