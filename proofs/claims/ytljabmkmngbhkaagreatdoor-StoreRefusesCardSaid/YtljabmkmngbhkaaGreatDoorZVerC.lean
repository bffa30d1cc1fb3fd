/-
  The program's version: each level put in its order; may they be?
-/
import Derived.Test.YtljabmkmngbhkaaGreatDoorZMg27
namespace Go.Proofs.YtljabmkmngbhkaaGreatDoor
open Go.RowKit
set_option linter.unusedVariables false
set_option linter.unusedSimpArgs false

theorem meta_get {w : World} {v : Value} {l : List MetaV} (h : Lst metaC w v l) : ∃ a cap, v = .slice a l.length cap ∧ l.length ≤ cap ∧ l.length ≤ 9223372036854775807 ∧ ∀ i x, l[i]? = some x → ∃ b, a = some ⟨b, 0, none⟩ ∧ b < w.heap.size ∧ v.ownBlock = some b ∧
    w.cell? ⟨b, i * 4, none⟩ = some (.int .i64 x.file) ∧ w.cell? ⟨b, i * 4 + 1, none⟩ = some (.int .i64 x.size) ∧ w.cell? ⟨b, i * 4 + 2, none⟩ = some (.string x.lo) ∧ w.cell? ⟨b, i * 4 + 3, none⟩ = some (.string x.hi) := by
  obtain ⟨a, cap, e, h1, h2, h3⟩ := meta_form h
  refine ⟨a, cap, e, h1, h2, fun i x hx => ?_⟩
  obtain ⟨hi, rfl⟩ := List.getElem?_eq_some_iff.1 hx
  have hl : l = l.take i ++ l[i] :: l.drop (i + 1) := by rw [← List.drop_eq_getElem_cons, List.take_append_drop]
  have := h3 (l.take i) l[i] (l.drop (i + 1)) hl
  rw [List.length_take, Nat.min_eq_left (by omega)] at this
  exact this
/-- The levels lie apart from each other. -/
def Far (L : Nat → Value) : Prop := ∀ i j k, i < 4 → j < 4 → i ≠ j → (L i).ownBlock = some k → (L j).ownBlock ≠ some k
def LFoot (L : Nat → Value) (k : Nat) : Prop := ∃ i, i < 4 ∧ (L i).ownBlock = some k
theorem VerAt.ne_ {w : World} {L : Nat → Value} {f : Nat → List MetaV} {g : Nat} {t : TypeId} {cs : Array Value} (h : VerAt w L f) (hb : Blk w g t cs) (ht : t ≠ 112) : ¬ LFoot L g := fun ⟨i, hi, hk⟩ => by
  obtain ⟨cs', hb'⟩ := (h i hi).typed hk
  exact hb.ne_ hb' ht rfl
theorem VerAt.one {w w' : World} {L : Nat → Value} {f : Nat → List MetaV} (h : VerAt w L f) (hf : Far L) {i : Nat} (hi : i < 4) {l' : List MetaV} (hl : Lst metaC w' (L i) l') (hc : Chg (fun k => (L i).ownBlock = some k) w w') : VerAt w' L (setLv f i l') := fun j hj => by
  unfold setLv
  by_cases e : j = i
  · subst e; rw [if_pos rfl]; exact hl
  · rw [if_neg e]
    exact (h j hj).chg hc fun k hk e' => hf j i k hj hi e hk e'
def UpAdj (l : List MetaV) (n : Nat) : Prop := ∀ i a b, i < n → l[i]? = some a → l[i + 1]? = some b → sl a.hi b.lo = true

/-- What sort answers. -/
def VSortPost (w : World) (L : Nat → Value) (f : Nat → List MetaV) (e : Ending) (w' : World) : Prop :=
  ∃ r : Bool, e = .returned (.bool r) ∧ Chg (LFoot L) w w' ∧
    (r = true → ∃ F, VerAt w' L F ∧ (∀ i, i < 4 → (F i).Perm (f i) ∧ Sorted (before i) (F i)) ∧ ∀ i, 1 ≤ i → i < 4 → AdjOk (F i)) ∧
    (r = false → ∃ i l, 1 ≤ i ∧ i < 4 ∧ l.Perm (f i) ∧ Sorted (before i) l ∧ ¬ AdjOk l)

set_option maxRecDepth 100000 in
set_option maxHeartbeats 4000000 in
theorem ver_sort (g : Nat) (L : Nat → Value) (f : Nat → List MetaV) (log next seq : Int) (w : World) (hb : Blk w g 62 #[L 0, L 1, L 2, L 3, .int .i64 log, .int .i64 next, .int .i64 seq]) (h : VerAt w L f) (hf : Far L) (hn : ∀ i, i < 4 → (f i).length ≤ 100000000) :
    Calls Tryz.prog 156 #[.pointer (some ⟨g, 0, none⟩)] w (VSortPost w L f) := by
  have hcell : ∀ W, Chg (LFoot L) w W → ∀ i, i < 4 → W.cell? ⟨g, i, none⟩ = some (L i) := fun W hc i hi => by
    have := (hb.chg hc (h.ne_ hb (by decide))).cell i
    match i, hi with
    | 0, _ => simpa using this
    | 1, _ => simpa using this
    | 2, _ => simpa using this
    | 3, _ => simpa using this
  have c0 := hcell w (Chg.refl _ _) 0 (by omega)
  have hs0 := sort_level0 (L 0) (f 0) (by have := hn 0 (by omega); omega) w (h 0 (by omega))
  have H := Lib.hid h
  have HF := Lib.hid hf
  have HN := Lib.hid hn
  have HCELL := Lib.hid hcell
  have HS0 := Lib.hid hs0
  clear h hf hn hcell hs0 hb
  go_enter Tryz.func156, Tryz.ntmps156
  go_wp2_with fail
  refine HS0.out.mono ?_
  rintro e w1 ⟨rfl, l0, hl0, hp0, hso0, hc0⟩
  have hv1 := H.out.one HF.out (by omega) hl0 hc0
  have hc1 : Chg (LFoot L) w w1 := hc0.mono fun k _ hk => ⟨0, by omega, hk⟩
  have HV1 := Lib.hid hv1
  have HC1 := Lib.hid hc1
  have HP0 := Lib.hid hp0
  have HSO0 := Lib.hid hso0
  clear hl0 hp0 hso0 hc0 hv1 hc1 c0
  go_wp2_with fail
  go_loopw [17] (fun i wr => ∃ k : Nat, k ≤ 3 ∧ i = .int .i64 k ∧ ∃ F : Nat → List MetaV, VerAt wr L F ∧ (∀ j, j < 4 → (F j).Perm (f j)) ∧ (∀ j, j ≤ k → Sorted (before j) (F j)) ∧ (∀ j, 1 ≤ j → j ≤ k → AdjOk (F j)) ∧ Chg (LFoot L) w wr) (fun i _ => 3 - (intOf i).toNat)
  case atStart =>
    refine ⟨0, by omega, rfl, _, HV1.out, fun j hj => ?_, fun j hj => ?_, fun j h1 h2 => by omega, HC1.out⟩
    · unfold setLv
      by_cases e : j = 0
      · subst e; rw [if_pos rfl]; exact HP0.out
      · rw [if_neg e]
    · obtain rfl : j = 0 := by omega
      simpa [setLv] using HSO0.out
  case round =>
    obtain ⟨k, hk, rfl, F, hv, hp, hso, had, hc⟩ := hrel
    by_cases hlt : k < 3
    · have hz := HCELL.out wr hc (1 + k) (by omega)
      have hlen : (F (1 + k)).length ≤ 100000000 := by rw [(hp (1 + k) (by omega)).length_eq]; exact HN.out _ (by omega)
      have hs := sort_level (1 + k) (by omega) (L (1 + k)) (F (1 + k)) (by omega) wr (hv _ (by omega))
      obtain ⟨la, lc, hL, hlc, hln, _⟩ := meta_form (hv (1 + k) (by omega))
      have hLb := hL
      obtain ⟨n, hnn⟩ : ∃ n, (F (1 + k)).length = n := ⟨_, rfl⟩
      rw [hnn] at hL hlen hlc hln
      rw [hL] at hz hs
      have hlt' : (k : Int) < 3 := by omega
      have hge : (0 : Int) ≤ (k : Int) := by omega
      have HV := Lib.hid hv
      have HP := Lib.hid hp
      have HSO := Lib.hid hso
      have HAD := Lib.hid had
      have HC := Lib.hid hc
      have HL := Lib.hid hL
      have HNN := Lib.hid hnn
      have HS := Lib.hid hs
      obtain ⟨wo, hwo⟩ : ∃ wo : World, wo = wr := ⟨_, rfl⟩
      subst hwo
      clear hv hp hso had hc hL hnn hs hLb
      go_wp2_with fail
      refine HS.out.mono ?_
      rintro e w2 ⟨rfl, l', hl', hp', hso', hc2⟩
      have hv2 := HV.out.one HF.out (i := 1 + k) (by omega) (by rw [HL.out]; exact hl') (by rw [HL.out]; exact hc2)
      have hc3 : Chg (LFoot L) w w2 := HC.out.trans hc2 fun k' _ hk' => ⟨1 + k, by omega, by rw [HL.out]; exact hk'⟩
      have hl2 : l'.length = n := by rw [hp'.length_eq]; exact HNN.out
      obtain ⟨_, _, e2, _, _, hget⟩ := meta_get hl'
      rw [hl2] at e2
      injection e2 with e3 e4 e5
      subst e3 e5
      have HV2 := Lib.hid hv2
      have HC3 := Lib.hid hc3
      have HL2 := Lib.hid hl2
      have HGET := Lib.hid hget
      have HP' := Lib.hid hp'
      have HSO' := Lib.hid hso'
      clear hl' hp' hso' hc2 hv2 hc3 hl2 hget e4 hz
      go_wp2_with fail
      go_loopw [5] (fun i wr => ∃ m : Nat, i = .int .i64 ((m : Int) + 1) ∧ m ≤ n ∧ UpAdj l' m ∧ ∃ q, w2.drewN q = wr) (fun i _ => n + 1 - (intOf i).toNat)
      case atStart => exact ⟨0, rfl, by omega, fun i a b hi => by omega, 0, rfl⟩
      case round =>
        obtain ⟨m, rfl, hm, hu, q, rfl⟩ := hrel
        have hm0 : (0 : Int) ≤ (m : Int) := by omega
        by_cases hlt2 : m + 1 < n
        · have hi1 : m < l'.length := by rw [HL2.out]; omega
          have hi2 : m + 1 < l'.length := by rw [HL2.out]; omega
          obtain ⟨b, rfl, hb, _, _, _, _, z3⟩ := HGET.out m l'[m] (List.getElem?_eq_getElem hi1)
          obtain ⟨b2, e2, _, _, _, _, z2, _⟩ := HGET.out (m + 1) l'[m + 1] (List.getElem?_eq_getElem hi2)
          injection e2 with e2
          injection e2 with e2
          subst e2
          have z3' : (w2.drewN q).cell? ⟨b, m * 4 + 3, none⟩ = some (.string l'[m].hi) := z3
          have z2' : (w2.drewN q).cell? ⟨b, (m + 1) * 4 + 2, none⟩ = some (.string l'[m + 1].lo) := z2
          have hltI : (m : Int) + 1 < (n : Int) := by omega
          have hnI : (n : Int) ≤ 100000000 := by omega
          have hwr : IntKind.i64.wrap ((m : Int) + 1 - 1) = (m : Int) := by rw [show (m : Int) + 1 - 1 = m from by omega]; exact IntWalk.i64_in _ (by omega)
          have hwr2 : IntKind.i64.wrap (m : Int) = (m : Int) := IntWalk.i64_in _ (by omega)
          have hmn : (m : Int) < (n : Int) := by omega
          have hm1 : (0 : Int) ≤ (m : Int) + 1 := by omega
          have htn : ((m : Int) + 1).toNat = m + 1 := by omega
          have hstep : sl l'[m].hi l'[m + 1].lo = true → UpAdj l' (m + 1) := fun h i a b hi ha hb => by
            by_cases e : i = m
            · subst e
              rw [List.getElem?_eq_getElem hi1] at ha
              rw [List.getElem?_eq_getElem hi2] at hb
              cases ha; cases hb; exact h
            · exact hu i a b (by omega) ha hb
          have hstop : sl l'[m].hi l'[m + 1].lo = false → ¬ AdjOk l' := fun h ha => by
            have := ha m _ _ (List.getElem?_eq_getElem hi1) (List.getElem?_eq_getElem hi2)
            rw [h] at this; cases this
          unfold sl at hstep hstop
          have HST := Lib.hid hstep
          have HSP := Lib.hid hstop
          generalize l'[m].hi = s1 at *
          generalize l'[m + 1].lo = s2 at *
          clear hstep hstop hu
          cases ht : Op.bytesLess s1.toList s2.toList with
          | true =>
            have hU := HST.out ht
            have HU := Lib.hid hU
            clear hU HST HSP
            go_wp2_with fail
            go_quiet (fail)
            go_wp2_with fail
            go_roundw
            case rel => exact ⟨m + 1, by go_num, by omega, HU.out, _, rfl⟩
            case measure => simp [intOf]; omega
          | false =>
            have hU := HSP.out ht
            have HU := Lib.hid hU
            clear hU HST HSP
            go_wp2_with fail
            go_quiet (fail)
            go_wp2_with fail
            go_ret
            exact ⟨false, rfl, (HC3.out.drewN _).drewN _, (fun h => by cases h), fun _ => ⟨1 + k, l', by omega, by omega, HP'.out.trans (HP.out _ (by omega)), HSO'.out, HU.out⟩⟩
        · have hltI : ¬ (m : Int) + 1 < (n : Int) := by omega
          have hok : AdjOk l' := fun i a b ha hb => by
            have := (List.getElem?_eq_some_iff.1 hb).1
            exact hu i a b (by have := HL2.out; omega) ha hb
          have HOK := Lib.hid hok
          have hp3 : ∀ j, j < 4 → (setLv F (1 + k) l' j).Perm (f j) := fun j hj => by
            unfold setLv
            by_cases e : j = 1 + k
            · subst e; rw [if_pos rfl]; exact HP'.out.trans (HP.out _ hj)
            · rw [if_neg e]; exact HP.out j hj
          have hso3 : ∀ j, j ≤ k + 1 → Sorted (before j) (setLv F (1 + k) l' j) := fun j hj => by
            unfold setLv
            by_cases e : j = 1 + k
            · subst e; rw [if_pos rfl]; exact HSO'.out
            · rw [if_neg e]; exact HSO.out j (by omega)
          have had3 : ∀ j, 1 ≤ j → j ≤ k + 1 → AdjOk (setLv F (1 + k) l' j) := fun j h1 hj => by
            unfold setLv
            by_cases e : j = 1 + k
            · subst e; rw [if_pos rfl]; exact HOK.out
            · rw [if_neg e]; exact HAD.out j h1 (by omega)
          have HP3 := Lib.hid hp3
          have HSO3 := Lib.hid hso3
          have HAD3 := Lib.hid had3
          clear hp3 hso3 had3 hok hu
          go_wp2_with fail
          go_roundw
          case rel => exact ⟨k + 1, by omega, by go_num, setLv F (1 + k) l', VerAt.same HV2.out cgS, HP3.out, HSO3.out, HAD3.out, HC3.out.drewN _⟩
          case measure => simp [intOf]; omega
    · obtain rfl : k = 3 := by omega
      have HV := Lib.hid hv
      have HP := Lib.hid hp
      have HSO := Lib.hid hso
      have HAD := Lib.hid had
      have HC := Lib.hid hc
      clear hv hp hso had hc hlt
      go_wp2_with fail
      go_ret
      exact ⟨true, rfl, HC.out, fun _ => ⟨F, HV.out, fun i hi => ⟨HP.out i hi, HSO.out i (by omega)⟩, fun i h1 h4 => HAD.out i h1 (by omega)⟩, fun h => by cases h⟩
end Go.Proofs.YtljabmkmngbhkaaGreatDoor
