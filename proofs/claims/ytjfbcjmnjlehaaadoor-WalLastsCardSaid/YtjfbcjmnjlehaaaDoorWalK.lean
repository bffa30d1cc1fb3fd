/-
  What logs do to a disk that no power fails: plain facts. Plain Lean; no condition.
-/
import Derived.Test.YtjfbcjmnjlehaaaDoorWalJ
namespace Go.Proofs.YtjfbcjmnjlehaaaDoor
set_option linter.unusedVariables false
set_option linter.unusedSimpArgs false

/-- A disk that no trap waits on. -/
structure Calm (D : DiskV) : Prop where
  off : D.off = false
  cut : D.cutL = 0
  full : D.fullL = 0
  room : D.room = 1099511627776
  few : D.names.length ≤ 10
/-- The file of a name holds these frames. -/
def Holds (D : DiskV) (n : ByteArray) (i : Nat) (l : List ByteArray) : Prop := look D.names n = some i ∧ ∃ f, D.files[i]? = some f ∧ f.data.data.toList = frasB (bl l)
theorem trapped_calm {D : DiskV} (h : Calm D) : trapped D = D := by
  obtain ⟨h1, h2, h3, _⟩ := h
  cases D
  simp only at h2 h3
  subst h2 h3
  simp [trapped, spring]
theorem change_calm {D : DiskV} (h : Calm D) (c : Bool) (act : DiskV → DiskV) : changeD D c act = (0, act D) := by
  unfold changeD
  rw [h.cut, h.full, trapped_calm h]
  simp [spring]
theorem ba_size (b : ByteArray) : b.data.toList.length = b.size := by rw [Array.length_toList]; rfl
theorem fraBA_list (b : ByteArray) : (fraBA b).data.toList = fraB b.data.toList := rfl
theorem fraBA_size (b : ByteArray) : (fraBA b).size = 8 + b.size := by rw [← ba_size, fraBA_list, fraB_len, ba_size]
theorem data_calm {D : DiskV} {n : ByteArray} {i : Nat} {l : List ByteArray} (h : Holds D n i l) : (dataOf D i).data.toList = frasB (bl l) := by
  obtain ⟨_, f, hf, hd⟩ := h
  unfold dataOf
  rw [hf]
  exact hd
theorem frasB_snoc (l : List ByteArray) (b : ByteArray) : frasB (bl (l ++ [b])) = frasB (bl l) ++ fraB b.data.toList := by simp [frasB, bl]
/-- What Append makes of a calm disk. -/
def appended (D : DiskV) (i : Nat) (b : ByteArray) : DiskV := syncA i (appendA i (fraBA b) D)
theorem append_calm {D : DiskV} {n : ByteArray} {i : Nat} {l : List ByteArray} (hc : Calm D) (hok : DiskOk D) (h : Holds D n i l) (b : ByteArray) (hb : b.size ≤ 65535) (hl : (frasB (bl l)).length + 8 + b.size ≤ 1048576) :
    appendW D n b = (0, appended D i b) := by
  have hp : putV b = (fraBA b, 0) := by unfold putV; rw [if_neg (by omega)]
  have hlen := congrArg List.length (data_calm h)
  rw [ba_size] at hlen
  have hu := used_bound hok
  have hsz := fraBA_size b
  have hr := hc.room
  have hf := hc.few
  have h1 : appendD D n (fraBA b) = (0, appendA i (fraBA b) D) := by
    unfold appendD
    rw [hc.off, h.1]
    simp only [Bool.false_eq_true, if_false]
    rw [if_neg (by omega), change_calm hc]
  have hc2 : Calm (appendA i (fraBA b) D) := ⟨hc.off, hc.cut, hc.full, hc.room, hc.few⟩
  have h2 : syncD (appendA i (fraBA b) D) n = (0, appended D i b) := by
    unfold syncD
    have e1 : (appendA i (fraBA b) D).off = false := hc.off
    have e2 : look (appendA i (fraBA b) D).names n = some i := h.1
    rw [e1, e2]
    simp only [Bool.false_eq_true, if_false]
    rw [change_calm hc2]
    rfl
  unfold appendW
  rw [hp]
  simp only [ne_eq, not_true_eq_false, if_false]
  rw [h1]
  simp only [not_true_eq_false, if_false]
  exact h2
theorem appended_calm {D : DiskV} (hc : Calm D) (i : Nat) (b : ByteArray) : Calm (appended D i b) := ⟨hc.off, hc.cut, hc.full, hc.room, hc.few⟩
theorem appended_holds {D : DiskV} {n : ByteArray} {i : Nat} {l : List ByteArray} (h : Holds D n i l) (b : ByteArray) : Holds (appended D i b) n i (l ++ [b]) := by
  obtain ⟨h1, f, hf, hd⟩ := h
  refine ⟨h1, ⟨f.data ++ fraBA b, (f.data ++ fraBA b).size⟩, ?_, ?_⟩
  · simp [appended, syncA, appendA, setF, hf]
  · rw [frasB_snoc, ← hd]
    show (f.data ++ fraBA b).data.toList = _
    rw [ByteArray.data_append, Array.toList_append]
    rfl
theorem appended_other {D : DiskV} {n : ByteArray} {i j : Nat} {l : List ByteArray} (h : Holds D n j l) (hij : i ≠ j) (b : ByteArray) : Holds (appended D i b) n j l := by
  obtain ⟨h1, f, hf, hd⟩ := h
  refine ⟨h1, f, ?_, hd⟩
  simp [appended, syncA, appendA, setF, List.getElem?_modify, hij, hf]
theorem read_calm {D : DiskV} {n : ByteArray} {i : Nat} {l : List ByteArray} (hc : Calm D) (h : Holds D n i l) : (readD D n).2 = 0 ∧ (readD D n).1.data.toList = frasB (bl l) := by
  unfold readD
  rw [hc.off, h.1]
  exact ⟨rfl, data_calm h⟩
theorem bl_size {l : List ByteArray} {m : Nat} (h : ∀ b ∈ l, b.size ≤ m) : ∀ b ∈ bl l, b.length ≤ m := fun b hb => by
  obtain ⟨x, hx, rfl⟩ := List.mem_map.1 hb
  rw [ba_size]
  exact h x hx
theorem fras_len {l : List ByteArray} {m : Nat} (h : ∀ b ∈ l, b.size ≤ m) : (frasB (bl l)).length ≤ l.length * (8 + m) := by
  induction l with
  | nil => simp [frasB, bl]
  | cons b r ih =>
    have h1 := ih fun x hx => h x (by simp [hx])
    have h2 := h b (by simp)
    have e : frasB (bl (b :: r)) = fraB b.data.toList ++ frasB (bl r) := by simp [frasB, bl]
    rw [e, List.length_append, fraB_len, ba_size, List.length_cons, Nat.succ_mul]
    omega
theorem bl_inj : ∀ {l m : List ByteArray}, bl l = bl m → l = m
  | [], [], _ => rfl
  | [], _ :: _, h => by simp [bl] at h
  | _ :: _, [], h => by simp [bl] at h
  | a :: l, b :: m, h => by
    have h' : a.data.toList :: bl l = b.data.toList :: bl m := h
    injection h' with h1 h2
    rw [show a = b from ByteArray.ext (Array.ext' h1), bl_inj h2]
/-- A log that was not harmed is read back. -/
theorem all_calm {l : List ByteArray} (h : ∀ b ∈ l, b.size ≤ 65535) : allF (frasB (bl l)) = (bl l, 10) := by
  have := all_fras (bl l) [] (bl_size h)
  rw [List.append_nil, all_nil, List.append_nil] at this
  exact this
/-- One byte of a log was turned. -/
theorem all_spoilt {l : List ByteArray} (h : ∀ b ∈ l, b.size ≤ 65535) : ∀ {A B : List UInt8} {x y : UInt8}, frasB (bl l) = A ++ x :: B → x ≠ y → (allF (A ++ y :: B)).2 = 4 ∨ (allF (A ++ y :: B)).2 = 6 := by
  induction l with
  | nil => intro A B x y e; simp [frasB, bl] at e
  | cons b r ih =>
    intro A B x y e hne
    have hb : b.data.toList.length ≤ 65535 := by rw [ba_size]; exact h b (by simp)
    have e1 : frasB (bl (b :: r)) = fraB b.data.toList ++ frasB (bl r) := by simp [frasB, bl]
    rw [e1] at e
    by_cases hA : A.length < (fraB b.data.toList).length
    · obtain ⟨C, hC⟩ : ∃ C, fraB b.data.toList = A ++ x :: C := by
        refine ⟨(fraB b.data.toList).drop (A.length + 1), ?_⟩
        have h1 := congrArg (List.take (fraB b.data.toList).length) e
        rw [List.take_left, List.take_append] at h1
        rw [List.take_of_length_le (by omega)] at h1
        obtain ⟨d, hd⟩ : ∃ d, (fraB b.data.toList).length - A.length = d + 1 := ⟨(fraB b.data.toList).length - A.length - 1, by omega⟩
        rw [hd, List.take_succ_cons] at h1
        have h2 : (fraB b.data.toList).drop (A.length + 1) = B.take d := by
          conv => lhs; rw [h1]
          rw [show A.length + 1 = A.length + 1 from rfl, ← List.drop_drop, List.drop_left]
          rfl
        rw [h2]
        exact h1
      have hB : B = C ++ frasB (bl r) := by
        rw [hC, List.append_assoc, List.cons_append] at e
        have := List.append_cancel_left e
        injection this with _ h2
        exact h2.symm
      have := all_turned [] (frasB (bl r)) b.data.toList (by simp) hb hC hne
      rw [hB]
      simpa [frasB] using this
    · obtain ⟨A', hA'⟩ : ∃ A', A = fraB b.data.toList ++ A' := by
        refine ⟨A.drop (fraB b.data.toList).length, ?_⟩
        have h1 := congrArg (List.take (fraB b.data.toList).length) e
        rw [List.take_left, List.take_append_of_le_length (by omega)] at h1
        conv => lhs; rw [← List.take_append_drop (fraB b.data.toList).length A]
        rw [← h1]
      have e2 : frasB (bl r) = A' ++ x :: B := by
        rw [hA', List.append_assoc] at e
        exact List.append_cancel_left e
      have := ih (fun c hc => h c (by simp [hc])) e2 hne
      rw [hA', List.append_assoc, all_fra _ _ hb]
      exact this
theorem byte_turned (q : Nat) (hq : q < 8) (b : UInt8) : b ≠ b ^^^ UInt8.ofNat (1 <<< q) := by
  have h : ∀ q : Fin 8, ∀ n : Fin 256, UInt8.ofNat n.val ≠ UInt8.ofNat n.val ^^^ UInt8.ofNat (1 <<< q.val) := by decide +kernel
  have := h ⟨q, hq⟩ ⟨b.toNat, b.toNat_lt⟩
  simpa using this
/-- A bit that was turned. -/
theorem spoil_at (s : ByteArray) (bit : Int) (hs : 0 < s.size) : ∃ A x B y, s.data.toList = A ++ x :: B ∧ (spoilB s bit).data.toList = A ++ y :: B ∧ x ≠ y := by
  have hb := restI_bd (n := bit) (b := 8 * s.size) (by omega)
  obtain ⟨j, hj⟩ : ∃ j, (restI bit (8 * s.size)).toNat / 8 = j := ⟨_, rfl⟩
  have hjl : j < s.data.toList.length := by rw [ba_size]; omega
  refine ⟨s.data.toList.take j, s.data.toList[j], s.data.toList.drop (j + 1), s.data.toList[j] ^^^ UInt8.ofNat (1 <<< ((restI bit (8 * s.size)).toNat % 8)), ?_, ?_, byte_turned _ (by omega) _⟩
  · rw [← List.drop_eq_getElem_cons, List.take_append_drop]
  · unfold spoilB xorAt
    rw [hj, Array.toList_modify, modify_set _ _ hjl, List.set_eq_take_append_cons_drop, if_pos hjl]
end Go.Proofs.YtjfbcjmnjlehaaaDoor
