/-
  A rename over another file, plain law: behind a loss of power it is the elder one or the newer one.
-/
import Derived.Test.YtlcggocfkanblaaDiskT
namespace Go.Proofs.Ytlcggocfkanblaa
open Go.RowKit
set_option linter.unusedVariables false
set_option linter.unusedSimpArgs false

def sT : ByteArray := ⟨#[116]⟩
abbrev rnRoom : Int := 1099511627776
def rnZ1 : DiskV := ⟨rnRoom, [⟨⟨#[]⟩, 0⟩], [(sA, 0)], [], [[(sA, some 0)]], 0, 0, [], 0, false⟩
def rnZ2 (E : ByteArray) : DiskV := ⟨rnRoom, [⟨E, 0⟩], [(sA, 0)], [], [[(sA, some 0)]], 0, 0, [], 0, false⟩
def rnZ3 (E : ByteArray) : DiskV := ⟨rnRoom, [⟨E, E.size⟩], [(sA, 0)], [], [[(sA, some 0)]], 0, 0, [], 0, false⟩
def rnY0 (E : ByteArray) (l c : Int) (b : List Int) : DiskV := ⟨rnRoom, [⟨E, E.size⟩], [(sA, 0)], [(sA, 0)], [], l, c, b, 0, false⟩
def rnY1 (E : ByteArray) (l c : Int) (b : List Int) : DiskV := ⟨rnRoom, [⟨E, E.size⟩, ⟨⟨#[]⟩, 0⟩], [(sA, 0), (sT, 1)], [(sA, 0)], [[(sT, some 1)]], l, c, b, 0, false⟩
def rnY2 (E N : ByteArray) (l c : Int) (b : List Int) : DiskV := ⟨rnRoom, [⟨E, E.size⟩, ⟨N, 0⟩], [(sA, 0), (sT, 1)], [(sA, 0)], [[(sT, some 1)]], l, c, b, 0, false⟩
def rnY3 (E N : ByteArray) (l c : Int) (b : List Int) : DiskV := ⟨rnRoom, [⟨E, E.size⟩, ⟨N, N.size⟩], [(sA, 0), (sT, 1)], [(sA, 0)], [[(sT, some 1)]], l, c, b, 0, false⟩
def rnY4 (E N : ByteArray) (l c : Int) (b : List Int) : DiskV := ⟨rnRoom, [⟨E, E.size⟩, ⟨N, N.size⟩], [(sA, 1)], [(sA, 0)], [[(sT, some 1)], [(sA, some 1), (sT, none)]], l, c, b, 0, false⟩
def rnY5 (E N : ByteArray) (l c : Int) (b : List Int) : DiskV := ⟨rnRoom, [⟨E, E.size⟩, ⟨N, N.size⟩], [(sA, 1)], [(sA, 1)], [], l, c, b, 0, false⟩

theorem nil_app (E : ByteArray) : (⟨#[]⟩ : ByteArray) ++ E = E := by
  show ByteArray.empty ++ E = E
  simp
theorem z_create : createD (startD rnRoom) sA = (0, rnZ1) := by with_unfolding_all rfl
theorem z_append (E : ByteArray) (h : E.size ≤ 1000) : appendD rnZ1 sA E = (0, rnZ2 E) := by
  have hl : look rnZ1.names sA = some 0 := by decide +kernel
  have hd : (dataOf rnZ1 0).size = 0 := by decide +kernel
  have hu : usedD rnZ1 = 0 := by decide +kernel
  have hr : rnZ1.room = 1099511627776 := rfl
  unfold appendD
  rw [if_neg (by decide), hl]
  simp only
  rw [if_neg (by rw [hd, hu, hr]; omega)]
  show (0, ({ rnZ1 with files := [⟨(⟨#[]⟩ : ByteArray) ++ E, 0⟩] } : DiskV)) = _
  rw [nil_app]; rfl
theorem z_sync (E : ByteArray) : syncD (rnZ2 E) sA = (0, rnZ3 E) := by with_unfolding_all rfl
theorem z_syncdir (E : ByteArray) : syncDirD (rnZ3 E) = (0, rnY0 E 0 0 []) := by with_unfolding_all rfl

/-- Behind any loss of power the name is that of the elder file or of the newer one, both whole. -/
def Safe (E N : ByteArray) (D : DiskV) : Prop := D.files[0]? = some ⟨E, E.size⟩ ∧ D.queue.length ≤ 1000 ∧
  ∀ k, look (doAll D.lasts (D.queue.take k)) sA = some 0 ∨ (look (doAll D.lasts (D.queue.take k)) sA = some 1 ∧ D.files[1]? = some ⟨N, N.size⟩)
theorem fix_whole (bytes : List Int) (i : Nat) (E : ByteArray) : fileFix bytes i ⟨E, E.size⟩ = ⟨E, E.size⟩ := by
  have hk : (if bytes = [] then (0 : Int) else restI (bytes.getD (i % bytes.length) 0) ((E.size : Int) - E.size + 1)) = 0 := by
    split
    · rfl
    · have := restI_bd (n := bytes.getD (i % bytes.length) 0) (b := (E.size : Int) - E.size + 1) (by omega)
      omega
  unfold fileFix
  simp only
  rw [hk]
  simp
theorem fix_at {l : List FileV} {bytes : List Int} {i : Nat} {E : ByteArray} (h : l[i]? = some ⟨E, E.size⟩) : (l.mapIdx (fileFix bytes))[i]? = some ⟨E, E.size⟩ := by
  rw [List.getElem?_mapIdx, h, Option.map_some, fix_whole]
theorem Safe.fail {E N : ByteArray} {D : DiskV} (h : Safe E N D) (n : Int) (b : List Int) (o : Bool) : Safe E N { failD D n b with off := o } := by
  obtain ⟨h0, _, hk⟩ := h
  refine ⟨fix_at h0, by simp [failD], fun k => ?_⟩
  have := hk (restI n (D.queue.length + 1)).toNat
  simp only [failD, List.take_nil]
  rcases this with e | ⟨e, e2⟩
  · exact .inl e
  · exact .inr ⟨e, fix_at e2⟩
theorem Safe.read {E N : ByteArray} {D : DiskV} (h : Safe E N D) (n : Int) (b : List Int) : readD (crashD D n b) sA = (E, 0) ∨ readD (crashD D n b) sA = (N, 0) := by
  obtain ⟨h0, _, hk⟩ := h
  have := hk (restI n (D.queue.length + 1)).toNat
  unfold readD
  rw [if_neg (by simp [crashD])]
  have hn : (crashD D n b).names = doAll D.lasts (D.queue.take (restI n (D.queue.length + 1)).toNat) := rfl
  have hf : (crashD D n b).files = D.files.mapIdx (fileFix b) := rfl
  rw [hn]
  rcases this with e | ⟨e, e2⟩
  · rw [e]
    left
    simp only [dataOf, hf, fix_at h0]
  · rw [e]
    right
    simp only [dataOf, hf, fix_at e2]
theorem change_two (D : DiskV) (c : Bool) (act : DiskV → DiskV) (hf : D.fullL = 0) (E N : ByteArray) (h1 : Safe E N (act (trapped D))) (h2 : Safe E N (trapped D)) :
    changeD D c act = (0, act (trapped D)) ∨ ((changeD D c act).1 ≠ 0 ∧ Safe E N (changeD D c act).2) := by
  unfold changeD
  split
  · right
    refine ⟨by simp, ?_⟩
    cases c
    · exact h2.fail _ _ _
    · exact h1.fail _ _ _
  · rw [hf]
    exact .inl rfl
section
variable (E N : ByteArray) (l c : Int) (b : List Int)
theorem safe0 : Safe E N (rnY0 E l c b) := ⟨rfl, by simp [rnY0], fun k => .inl (by simp [rnY0, doAll, look])⟩
theorem safe_t {D : DiskV} (h0 : D.files[0]? = some ⟨E, E.size⟩) (hq : D.queue = [[(sT, some 1)]]) (hl : D.lasts = [(sA, 0)]) : Safe E N D := by
  refine ⟨h0, by rw [hq]; decide, fun k => .inl ?_⟩
  rw [hq, hl]
  match k with
  | 0 => decide +kernel
  | k + 1 => rw [List.take_of_length_le (by simp)]; decide +kernel
theorem safe1 : Safe E N (rnY1 E l c b) := safe_t E N rfl rfl rfl
theorem safe2 : Safe E N (rnY2 E N l c b) := safe_t E N rfl rfl rfl
theorem safe3 : Safe E N (rnY3 E N l c b) := safe_t E N rfl rfl rfl
theorem safe4 : Safe E N (rnY4 E N l c b) := by
  refine ⟨rfl, by simp [rnY4], fun k => ?_⟩
  have hq : (rnY4 E N l c b).queue = [[(sT, some 1)], [(sA, some 1), (sT, none)]] := rfl
  have hl : (rnY4 E N l c b).lasts = [(sA, 0)] := rfl
  rw [hq, hl]
  match k with
  | 0 => exact .inl (by decide +kernel)
  | 1 => exact .inl (by decide +kernel)
  | k + 2 =>
    rw [List.take_of_length_le (by simp)]
    exact .inr ⟨by decide +kernel, rfl⟩
theorem safe5 : Safe E N (rnY5 E N l c b) := ⟨rfl, by simp [rnY5], fun k => .inr ⟨by simp [rnY5, doAll, look], rfl⟩⟩
/-- One call: it is done, or the disk is off and safe. -/
def Goes (E N : ByteArray) (r : Int × DiskV) (Y : Int → Int → List Int → DiskV) : Prop := (r.1 = 0 ∧ ∃ l c b, r.2 = Y l c b) ∨ (r.1 ≠ 0 ∧ Safe E N r.2)
theorem goes_of {E N : ByteArray} {r : Int × DiskV} {D : DiskV} {Y : Int → Int → List Int → DiskV} (h : r = (0, D) ∨ (r.1 ≠ 0 ∧ Safe E N r.2)) (hD : ∃ l c b, D = Y l c b) : Goes E N r Y := by
  rcases h with h | h
  · rw [h]; exact .inl ⟨rfl, hD⟩
  · exact .inr h
theorem r_create : Goes E N (createD (rnY0 E l c b) sT) (rnY1 E) := by
  have h : createD (rnY0 E l c b) sT = changeD (rnY0 E l c b) true (createA sT) := by with_unfolding_all rfl
  have ha : createA sT (trapped (rnY0 E l c b)) = rnY1 E (spring l).2 c b := by with_unfolding_all rfl
  rw [h]
  exact goes_of (change_two _ _ _ rfl E N (by rw [ha]; exact safe1 ..) (safe0 ..)) ⟨_, _, _, ha⟩
theorem r_append (hE : E.size ≤ 1000) (hN : N.size ≤ 1000) : Goes E N (appendD (rnY1 E l c b) sT N) (rnY2 E N) := by
  have hl : look (rnY1 E l c b).names sT = some 1 := by
    have : (rnY1 E l c b).names = [(sA, 0), (sT, 1)] := rfl
    rw [this]; decide +kernel
  have hd : (dataOf (rnY1 E l c b) 1).size = 0 := rfl
  have hu : usedD (rnY1 E l c b) = E.size := by
    show ((E.size : Int) + (((⟨#[]⟩ : ByteArray).size : Int) + 0)) = _
    have : (⟨#[]⟩ : ByteArray).size = 0 := rfl
    rw [this]; omega
  have hr : (rnY1 E l c b).room = 1099511627776 := rfl
  have h : appendD (rnY1 E l c b) sT N = changeD (rnY1 E l c b) true (appendA 1 N) := by
    unfold appendD
    rw [if_neg (by simp [rnY1]), hl]
    simp only
    rw [if_neg (by rw [hd, hu, hr]; omega)]
  have ha : appendA 1 N (trapped (rnY1 E l c b)) = rnY2 E N (spring l).2 c b := by
    show ({ rnY1 E (spring l).2 c b with files := [⟨E, E.size⟩, ⟨(⟨#[]⟩ : ByteArray) ++ N, 0⟩] } : DiskV) = _
    rw [nil_app]; rfl
  rw [h]
  exact goes_of (change_two _ _ _ rfl E N (by rw [ha]; exact safe2 ..) (safe1 ..)) ⟨_, _, _, ha⟩
theorem r_sync : Goes E N (syncD (rnY2 E N l c b) sT) (rnY3 E N) := by
  have h : syncD (rnY2 E N l c b) sT = changeD (rnY2 E N l c b) false (syncA 1) := by with_unfolding_all rfl
  have ha : syncA 1 (trapped (rnY2 E N l c b)) = rnY3 E N (spring l).2 c b := by with_unfolding_all rfl
  rw [h]
  exact goes_of (change_two _ _ _ rfl E N (by rw [ha]; exact safe3 ..) (safe2 ..)) ⟨_, _, _, ha⟩
theorem r_rename : Goes E N (renameD (rnY3 E N l c b) sT sA) (rnY4 E N) := by
  have h : renameD (rnY3 E N l c b) sT sA = changeD (rnY3 E N l c b) true (renameA sT sA 1) := by with_unfolding_all rfl
  have ha : renameA sT sA 1 (trapped (rnY3 E N l c b)) = rnY4 E N (spring l).2 c b := by with_unfolding_all rfl
  rw [h]
  exact goes_of (change_two _ _ _ rfl E N (by rw [ha]; exact safe4 ..) (safe3 ..)) ⟨_, _, _, ha⟩
theorem r_syncdir : Goes E N (syncDirD (rnY4 E N l c b)) (rnY5 E N) := by
  have h : syncDirD (rnY4 E N l c b) = changeD (rnY4 E N l c b) false syncDirA := by with_unfolding_all rfl
  have ha : syncDirA (trapped (rnY4 E N l c b)) = rnY5 E N (spring l).2 c b := by with_unfolding_all rfl
  rw [h]
  exact goes_of (change_two _ _ _ rfl E N (by rw [ha]; exact safe5 ..) (safe4 ..)) ⟨_, _, _, ha⟩
theorem r_read (n : Int) (bs : List Int) : readD (crashD (rnY5 E N l c b) n bs) sA = (N, 0) := by
  have hn : (crashD (rnY5 E N l c b) n bs).names = [(sA, 1)] := by simp [crashD, failD, rnY5, doAll]
  have hf : (crashD (rnY5 E N l c b) n bs).files = (rnY5 E N l c b).files.mapIdx (fileFix bs) := rfl
  have h1 : (rnY5 E N l c b).files[1]? = some ⟨N, N.size⟩ := rfl
  unfold readD
  rw [if_neg (by simp [crashD]), hn]
  simp [look, dataOf, hf, fix_at h1]
end
end Go.Proofs.Ytlcggocfkanblaa
