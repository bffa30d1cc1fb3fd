/-
  The words that all texts of this seat share: a block known whole ('Blk'), and what a call may have changed ('Chg'). Plain lemmas; no condition.
  What an argument that is a slice reads as: plain lemmas; no condition.
  From a law's walk ('true' is returned; nothing that was there before has changed) to the row's own words: plain lemmas over whatever law; no condition.
  The check sum of bytes, as plain numbers; one byte more or less makes another sum. Plain Lean; no program; no condition.
  Frames as plain bytes: what Put makes, what Get and All find. Plain Lean; no program; no condition.
  The program's frame: Sum.
  The disk as plain data: what each call makes of it. No program's text.
-/
import Derived.WalkKit
import Derived.Deep.Draws
import Derived.Deep.QuietTactic
import Derived.BigQuiet
import Derived.Lib.Hide
import Derived.Test.YtljabmkmngbhkaaGreatDoorRows
import Derived.ProofKit
import Derived.OpenShut
import Derived.Deep.Slices
import Derived.Deep.Fields
import Derived.ChangeSame
import Derived.Lib.SmallJoins
import Derived.Test.YtljabmkmngbhkaaGreatDoorProg
import Derived.IntWalk
import Derived.Laws.BitsAllLaws
namespace Go.Proofs.YtljabmkmngbhkaaGreatDoor
open Go.RowKit

/-- Block g is just these cells, none frozen. -/
def Blk (w : World) (g : Nat) (t : TypeId) (cs : Array Value) : Prop := w.heap[g]? = some (.cells cs t (0, 0))

/-- From w to w' only blocks of S, and new ones, have changed. -/
structure Chg (S : Nat → Prop) (w w' : World) : Prop where
  os : w'.os = w.os
  tape : w'.tape = w.tape
  output : w'.output = w.output
  size : w.heap.size ≤ w'.heap.size
  block : ∀ k, k < w.heap.size → ¬ S k → w'.heap[k]? = w.heap[k]?

section
variable {S T : Nat → Prop} {w w' w1 w2 : World} {g : Nat} {t : TypeId} {cs : Array Value}

theorem Chg.refl (S : Nat → Prop) (w : World) : Chg S w w := ⟨rfl, rfl, rfl, Nat.le_refl _, fun _ _ _ => rfl⟩
theorem Chg.mono (h : Chg S w w') (hST : ∀ k, k < w.heap.size → S k → T k) : Chg T w w' :=
  ⟨h.os, h.tape, h.output, h.size, fun k hk hn => h.block k hk fun hs => hn (hST k hk hs)⟩
theorem Chg.trans (h : Chg S w w1) (h' : Chg T w1 w2) (hT : ∀ k, k < w.heap.size → T k → S k) : Chg S w w2 :=
  ⟨h'.os.trans h.os, h'.tape.trans h.tape, h'.output.trans h.output, Nat.le_trans h.size h'.size, fun k hk hn =>
    (h'.block k (Nat.lt_of_lt_of_le hk h.size) fun ht => hn (hT k hk ht)).trans (h.block k hk hn)⟩
theorem Chg.then (h : Chg S w w1) (h' : Chg S w1 w2) : Chg S w w2 := h.trans h' fun _ _ h => h
theorem Chg.own (h : Chg (fun _ => False) w w1) {g : Nat} (h' : Chg (fun k => k = g) w1 w2) (hg : w.heap.size ≤ g) : Chg (fun _ => False) w w2 := h.trans h' fun k hk e => by omega
theorem Chg.drew (h : Chg S w w1) : Chg S w w1.drew := ⟨h.os, h.tape, h.output, h.size, h.block⟩
theorem Chg.drewN (h : Chg S w w1) (n : Nat) : Chg S w (w1.drewN n) := ⟨h.os, h.tape, h.output, h.size, h.block⟩
theorem Chg.alloc (h : Chg S w w1) (o : Obj) : Chg S w (w1.alloc o) :=
  ⟨h.os, h.tape, h.output, by have := h.size; simp; omega, fun k hk hn => (Below.heap_alloc w1 o k (Nat.lt_of_lt_of_le hk h.size)).trans (h.block k hk hn)⟩
theorem Chg.setCell (h : Chg S w w1) {p : Addr} (hp : p.block < w.heap.size → S p.block) (u : Value) : Chg S w (w1.setCell p u) :=
  ⟨h.os, h.tape, h.output, by have := h.size; simp [World.setCell]; omega, fun k hk hn =>
    (Below.heap_setCell w1 p u k (fun e => by subst e; exact hn (hp hk))).trans (h.block k hk hn)⟩
theorem Chg.cell (h : Chg S w w') {p : Addr} (hp : p.block < w.heap.size) (hs : ¬ S p.block) : w'.cell? p = w.cell? p := World.cell?_of_block (w := w) (h.block p.block hp hs)
theorem Chg.frozen (h : Chg S w w') {p : Addr} (hp : p.block < w.heap.size) (hs : ¬ S p.block) : w'.frozen? p = w.frozen? p := World.frozen?_of_block (w := w) (h.block p.block hp hs)
theorem Chg.new (h : Chg (fun k => w.heap.size ≤ k) w w') : Chg (fun _ => False) w w' := h.mono fun k hk hs => by omega
theorem Chg.below (h : Chg (fun _ => False) w w') : Below w.heap.size w w' := ⟨h.os, h.tape, h.output, h.size, fun k hk => h.block k hk id⟩
theorem Chg.of_below (h : Below w.heap.size w w') : Chg S w w' := ⟨h.os, h.tape, h.output, h.size, fun k hk _ => h.block k hk⟩

theorem Blk.lt (h : Blk w g t cs) : g < w.heap.size := by
  rcases Nat.lt_or_ge g w.heap.size with hlt | hge
  · exact hlt
  · unfold Blk at h; rw [Array.getElem?_eq_none hge] at h; cases h
theorem Blk.cell (h : Blk w g t cs) (i : Nat) : w.cell? ⟨g, i, none⟩ = cs[i]? := cell_of_row w g i cs t (0, 0) h
theorem Blk.frozen (h : Blk w g t cs) (i : Nat) : w.frozen? ⟨g, i, none⟩ = false := by
  unfold Blk at h
  simp [World.frozen?, h]
theorem Blk.new (w : World) (t : TypeId) (cs : Array Value) : Blk (w.alloc (.cells cs t)) w.heap.size t cs := heap_alloc_new w _
theorem Blk.drew (h : Blk w g t cs) : Blk w.drew g t cs := h
theorem Blk.drewN (h : Blk w g t cs) (n : Nat) : Blk (w.drewN n) g t cs := h
theorem Blk.alloc (h : Blk w g t cs) (o : Obj) : Blk (w.alloc o) g t cs := (Below.heap_alloc w o g h.lt).trans h
theorem Blk.set_ (h : Blk w g t cs) (i : Nat) (u : Value) : Blk (w.setCell ⟨g, i, none⟩ u) g t (cs.setIfInBounds i u) := by
  unfold Blk at h ⊢
  simp [World.setCell, Array.getElem?_modify, h]
theorem Blk.far (h : Blk w g t cs) {p : Addr} (hp : g ≠ p.block) (u : Value) : Blk (w.setCell p u) g t cs := (Below.heap_setCell w p u g hp).trans h
theorem Blk.chg (h : Blk w g t cs) (hb : Chg S w w') (hg : ¬ S g) : Blk w' g t cs := (hb.block g h.lt hg).trans h
theorem Blk.below {B : Nat} (h : Blk w g t cs) (hb : Below B w w') (hg : g < B) : Blk w' g t cs := (hb.block g hg).trans h
theorem Blk.ne_ {g' : Nat} {t' : TypeId} {cs' : Array Value} (h : Blk w g t cs) (h' : Blk w g' t' cs') (hne : t ≠ t') : g ≠ g' := by
  rintro rfl
  unfold Blk at h h'
  rw [h] at h'
  injection h' with h'
  injection h' with _ ht
  exact hne ht
theorem Blk.same {t' : TypeId} {cs' : Array Value} (h : Blk w g t cs) (h' : Blk w g t' cs') : cs = cs' := by
  unfold Blk at h h'
  rw [h] at h'
  injection h' with h'
  injection h' with h' _
end

/-- A callee that changes nothing, met inside a quiet region. -/
theorem quiet_same {P : Program} {f : FuncId} {args : Array Value} {w : World} {n : Nat} {v : Value}
    (h : Calls P f args (w.drewN n) fun e w' => e = .returned v ∧ w.drewN n = w') : Calls P f args (w.drewN n) fun e w'' => e = .returned v ∧ ∃ m, w'' = w.drewN m :=
  h.mono fun _ _ ⟨he, hm⟩ => ⟨he, n, hm.symm⟩
theorem quiet_drew' {P : Program} {f : FuncId} {args : Array Value} {w : World} {n : Nat} {v : Value}
    (h : Calls P f args (w.drewN n) fun e w' => e = .returned v ∧ ∃ m, (w.drewN n).drewN m = w') : Calls P f args (w.drewN n) fun e w'' => e = .returned v ∧ ∃ m, w'' = w.drewN m :=
  h.mono fun _ _ ⟨he, m, hm⟩ => ⟨he, n + m, by rw [← hm, World.drewN_drewN]⟩
/-! Closers: each ends a goal by its own words. -/
theorem bnN {P : Prop} (h : P := by (first | exact Blk.new _ _ _ | exact Blk.new1 _ _ _ _ | exact Blk.new2 _ _ _ _ _ | exact Blk.drew (Blk.new _ _ _) | exact Blk.drew (Blk.new1 _ _ _ _) | exact Blk.drew (Blk.new2 _ _ _ _ _) | exact Blk.drew (Blk.drew (Blk.new _ _ _)) | exact Blk.drewN (Blk.new _ _ _) _ | exact Blk.drewN (Blk.new1 _ _ _ _) _)) : P := h
theorem cgR {P : Prop} (h : P := by ((repeat (first | with_reducible exact Chg.refl _ _ | with_reducible assumption | with_reducible refine Chg.drewN ?_ _ | with_reducible refine Chg.drew ?_ | with_reducible refine Chg.alloc ?_ _ | with_reducible refine Chg.setCell ?_ (by first | (simp; done) | (simp; omega) | (intro h; simp at h; omega)) _)))) : P := h
theorem cgS {P : Prop} (h : P := by ((repeat (first | exact Chg.refl _ _ | assumption | refine Chg.drewN ?_ _ | refine Chg.drew ?_ | refine Chg.alloc ?_ _ | refine Chg.setCell ?_ (by first | (simp; done) | (simp; omega) | (intro h; simp at h; omega)) _)))) : P := h
end Go.Proofs.YtljabmkmngbhkaaGreatDoor
namespace Go.Proofs.YtljabmkmngbhkaaGreatDoor
open Go.RowKit

/-- The slice value '.slice A n c' reads as n rows of k cells each, V i j the j-th of row i; they lie below block B. -/
def Rec (w : World) (B k : Nat) (A : Option Addr) (n : Nat) (V : Nat → Nat → Value) : Prop :=
  0 < n → ∃ b off, A = some ⟨b, off, none⟩ ∧ b < B ∧ ∀ i, i < n → ∀ j, j < k → w.cell? ⟨b, off + i * k + j, none⟩ = some (V i j)
theorem Rec.chg {S : Nat → Prop} {w w' : World} {B k : Nat} {A : Option Addr} {n : Nat} {V : Nat → Nat → Value} (h : Rec w B k A n V) (hc : Chg S w w') (hB : B ≤ w.heap.size) (hS : ∀ b, b < B → ¬ S b) : Rec w' B k A n V := fun hn => by
  obtain ⟨b, off, e, hb, hr⟩ := h hn
  exact ⟨b, off, e, hb, fun i hi j hj => (hc.cell (p := ⟨b, off + i * k + j, none⟩) (Nat.lt_of_lt_of_le hb hB) (hS b hb)).trans (hr i hi j hj)⟩

end Go.Proofs.YtljabmkmngbhkaaGreatDoor
namespace Go.Proofs.YtljabmkmngbhkaaGreatDoor
open Go.ChangeShapes Go.WideShapes Go.ChangeAt Go.RowKit Go.Deep
set_option linter.unusedVariables false

theorem own_none : ownKnob Tryz.prog.godebug = none := by kernel_rfl
theorem laid_out : laidOutB Tryz.prog = true := by kernel_rfl

section
variable {H : Type} {enc : TypeId × Value → H} {P : Program}
/-- The arguments read behind the call as they read before. -/
theorem trodAll_stays (hl : laidOutB P = true) {W W' : World} (hb : Below W.heap.size W W') : ∀ {ts : List TypeId} {vs : List Value} {ds : List (DataW H)} {ps : List MemPlace},
    (∀ t ∈ ts, P.readableRec t = true ∧ t < P.types.size) → (∀ x ∈ ps, x.block < W.heap.size) → DataW.TrodAll enc P W 0 (fun _ => true) true ts vs ds ps → DataW.TrodAll enc P W' 0 (fun b => decide (b < W.heap.size)) true ts vs ds ps
  | [], [], [], _, _, _, h => h
  | [], _ :: _, _, _, _, _, h => h.elim
  | [], [], _ :: _, _, _, _, h => h.elim
  | _ :: _, [], _, _, _, _, h => h.elim
  | _ :: _, _ :: _, [], _, _, _, h => h.elim
  | t :: ts, v :: vs, d :: ds, ps, hr, hlt, h => by
    obtain ⟨p, q, h1, h2, rfl⟩ := h
    exact ⟨p, q, Below.trod hl (hr t (by simp)).1 (hr t (by simp)).2 h1 hb (fun x hx => hlt x (by simp [hx])), trodAll_stays hl hb (fun t ht => hr t (by simp [ht])) (fun x hx => hlt x (by simp [hx])) h2, rfl⟩

/-- What a law's row asks behind the call. -/
theorem law_post {f : Func} {s : ChangeSpec} {W W' : World} {args : Array Value} {ds gs : List (DataW H)} {before : List MemPlace} {b : TypeId} (hl : laidOutB P = true)
    (hW : DataW.Whole enc P f.params.toList s.vars false W args.toList ds gs before) (hv : s.vars = []) (hts : (f.params.toList.all fun t => P.readableRec t && decide (t < P.types.size)) = true)
    (hres : f.resultTypes = #[b]) (hb : P.underlying b = some .bool) (hfn : s.fn H (ds ++ []) = { results := [.lit (.bool true)], args := ds }) (hbel : Below W.heap.size W W') :
    s.post enc P f false true false false W args (.bool true) W' := by
  obtain ⟨p, q, hA, hV, rfl, hfz, hnd⟩ := hW
  have hW' : DataW.Whole enc P f.params.toList s.vars false W args.toList ds gs (p ++ q) := ⟨p, q, hA, hV, rfl, hfz, hnd⟩
  have hV' := hV
  rw [hv] at hV'
  obtain ⟨rfl, rfl⟩ := trodVars_none hV'
  have hr : ∀ t ∈ f.params.toList, P.readableRec t = true ∧ t < P.types.size := fun t ht => by
    have := List.all_eq_true.1 hts t ht
    simpa using this
  have hA' := trodAll_stays hl hbel hr hA.lt hA
  refine ⟨ds, [], p ++ [], [], p, [], hW', ?_, ?_, ?_, hbel.frame _, fun h => by cases h⟩
  · rw [hres, hfn]
    exact trodAll_mk1 (shut_bool hb true)
  · rw [hfn]
    exact hA'
  · rw [hfn, hv]
    rfl
end

section
variable {H : Type} {enc : TypeId × Value → H} {P : Program}
theorem Rec.congr {w : World} {B k : Nat} {A : Option Addr} {n : Nat} {V V' : Nat → Nat → Value} (h : Rec w B k A n V) (hV : ∀ i, i < n → ∀ j, j < k → V i j = V' i j) : Rec w B k A n V' := fun hn => by
  obtain ⟨b, off, e, hb, hr⟩ := h hn
  exact ⟨b, off, e, hb, fun i hi j hj => by rw [← hV i hi j hj]; exact hr i hi j hj⟩
end
end Go.Proofs.YtljabmkmngbhkaaGreatDoor
namespace Go.Proofs.YtljabmkmngbhkaaGreatDoor
set_option linter.unusedVariables false
set_option linter.unusedSimpArgs false

def crcStep (c : Nat) : Nat := (c / 2) ^^^ (if c % 2 = 1 then 3988292384 else 0)
theorem crcStep_lt {c : Nat} (h : c < 4294967296) : crcStep c < 4294967296 := by
  unfold crcStep
  refine Nat.xor_lt_two_pow (n := 32) (by omega) ?_
  split <;> omega
def crcN : Nat → Nat → Nat
  | 0, c => c
  | n + 1, c => crcN n (crcStep c)
theorem crcN_succ (n c : Nat) : crcN (n + 1) c = crcStep (crcN n c) := by
  induction n generalizing c with
  | zero => rfl
  | succ n ih => exact ih (crcStep c)
theorem crcN_lt {c : Nat} (h : c < 4294967296) (n : Nat) : crcN n c < 4294967296 := by
  induction n generalizing c with
  | zero => exact h
  | succ n ih => exact ih (crcStep_lt h)
def crcByte (c : Nat) (b : UInt8) : Nat := crcN 8 (c ^^^ b.toNat)
theorem xor_byte_lt {c : Nat} (h : c < 4294967296) (b : UInt8) : c ^^^ b.toNat < 4294967296 := Nat.xor_lt_two_pow (n := 32) h (by have := b.toNat_lt; omega)
theorem crcByte_lt {c : Nat} (h : c < 4294967296) (b : UInt8) : crcByte c b < 4294967296 := crcN_lt (xor_byte_lt h b) 8
def crcF (c : Nat) (l : List UInt8) : Nat := l.foldl crcByte c
theorem crcF_lt {c : Nat} (h : c < 4294967296) (l : List UInt8) : crcF c l < 4294967296 := by
  induction l generalizing c with
  | nil => exact h
  | cons b l ih => exact ih (crcByte_lt h b)
/-- The sum. -/
def crcSum (l : List UInt8) : Nat := 4294967295 - crcF 4294967295 l
theorem crcSum_lt (l : List UInt8) : crcSum l < 4294967296 := by unfold crcSum; omega
theorem crcF_snoc (c : Nat) (l : List UInt8) (b : UInt8) : crcF c (l ++ [b]) = crcByte (crcF c l) b := by simp [crcF]
end Go.Proofs.YtljabmkmngbhkaaGreatDoor
namespace Go.Proofs.YtljabmkmngbhkaaGreatDoor
set_option linter.unusedVariables false
set_option linter.unusedSimpArgs false

def u8 (n : Nat) : UInt8 := UInt8.ofNat n
def fraHead (n c : Nat) : List UInt8 := [u8 (n / 256), u8 (n % 256), u8 (255 - n / 256), u8 (255 - n % 256), u8 (c / 16777216), u8 (c / 65536 % 256), u8 (c / 256 % 256), u8 (c % 256)]
/-- The frame of a body. -/
def fraB (b : List UInt8) : List UInt8 := fraHead b.length (crcSum b) ++ b
theorem u8_nat {n : Nat} (h : n < 256) : (u8 n).toNat = n := by
  unfold u8
  rw [UInt8.toNat_ofNat']
  omega
theorem fraB_len (b : List UInt8) : (fraB b).length = 8 + b.length := by
  unfold fraB fraHead
  rw [List.length_append]
  rfl
end Go.Proofs.YtljabmkmngbhkaaGreatDoor
namespace Go.Proofs.YtljabmkmngbhkaaGreatDoor
open Go.RowKit
set_option linter.unusedVariables false
set_option linter.unusedSimpArgs false

theorem step_bits (d : Nat) (h : d < 4294967296) : bits .xor .u32 ((d : Int) / 2) ((d : Int) % 2 * 3988292384) = ((crcStep d : Nat) : Int) := by
  have e1 : (d : Int) / 2 = ((d / 2 : Nat) : Int) := by omega
  have e2 : (d : Int) % 2 * 3988292384 = ((if d % 2 = 1 then 3988292384 else 0 : Nat) : Int) := by
    split <;> omega
  rw [e1, e2]
  exact u32_xor_nat _ _ (by omega) (by split <;> omega)
theorem not_bits (d : Nat) (h : d < 4294967296) : bits .xor .u32 IntKind.u32.max (d : Int) = ((4294967295 - d : Nat) : Int) := by
  have := u32_xor_nat 4294967295 d (by omega) h
  rw [Nat.xor_comm, show (((4294967295 : Nat) : Int)) = IntKind.u32.max from rfl] at this
  rw [this]
  congr 1
  apply Nat.eq_of_testBit_eq
  intro i
  rw [Nat.testBit_xor]
  have h1 : (4294967295 : Nat) = 2 ^ 32 - 1 := by decide
  rw [h1, Nat.testBit_two_pow_sub_one, show 2 ^ 32 - 1 - d = 2 ^ 32 - (d + 1) by omega, Nat.testBit_two_pow_sub_succ (by omega)]
  by_cases hi : i < 32
  · simp [hi]
  · simp [hi]
    exact Nat.testBit_lt_two_pow (Nat.lt_of_lt_of_le h (show 4294967296 ≤ 2 ^ i from (show (4294967296 : Nat) = 2 ^ 32 by decide) ▸ Nat.pow_le_pow_right (by omega) (by omega)))
set_option maxRecDepth 100000 in
set_option maxHeartbeats 2000000 in
theorem fra_sum (s : ByteArray) (w : World) (hs : s.size ≤ 1000000000) : Calls Tryz.prog 169 #[.string s] w fun e w' => e = .returned (.int .u32 (crcSum s.data.toList)) ∧ w = w' := by
  go_enter Tryz.func169, Tryz.ntmps169
  go_wp2_with fail
  go_loop [3, 7] (fun c i => ∃ k : Nat, k ≤ s.size ∧ i = .int .i64 k ∧ c = .int .u32 (crcF 4294967295 (s.data.toList.take k) : Nat)) (fun _ i => s.size - (intOf i).toNat)
  case atStart => exact ⟨0, Nat.zero_le _, rfl, rfl⟩
  case round =>
    obtain ⟨k, hk, rfl, rfl⟩ := hrel
    obtain ⟨c, hc⟩ : ∃ c, crcF 4294967295 (s.data.toList.take k) = c := ⟨_, rfl⟩
    have hcl : c < 4294967296 := by rw [← hc]; exact crcF_lt (by omega) _
    rw [hc]
    by_cases hlt : k < s.size
    · have HC := Lib.hid hc
      clear hc
      have hb := s[k].toNat_lt
      have hx : bits .xor .u32 (c : Int) (s[k].toNat : Int) = ((c ^^^ s[k].toNat : Nat) : Int) := u32_xor_nat _ _ hcl (by omega)
      have hd0 := xor_byte_lt hcl s[k]
      obtain ⟨d0, hd⟩ : ∃ d, c ^^^ s[k].toNat = d := ⟨_, rfl⟩
      rw [hd] at hx hd0
      have HD := Lib.hid hd
      clear hd
      go_wp2_with fail
      go_loop [3, 16] (fun e j => ∃ m : Nat, m ≤ 8 ∧ j = .int .i64 m ∧ e = .int .u32 (crcN m d0 : Nat)) (fun _ j => 8 - (intOf j).toNat)
      case atStart => exact ⟨0, Nat.zero_le _, rfl, rfl⟩
      case round =>
        obtain ⟨m, hm, rfl, rfl⟩ := hrel
        have hml := crcN_lt hd0 m
        have hms := crcN_succ m d0
        obtain ⟨d, he⟩ : ∃ d, crcN m d0 = d := ⟨_, rfl⟩
        rw [he] at hml hms ⊢
        by_cases hlt8 : m < 8
        · have HE := Lib.hid hms
          clear he hms hx
          have ha : bits .and .u32 (d : Int) 1 = ((d % 2 : Nat) : Int) := by
            have := u32_and_nat d 1 hml (by omega)
            rw [Nat.and_one_is_mod] at this
            exact this
          have hst := step_bits d hml
          rw [← HE.out] at hst
          go_wp2_with fail
          refine ⟨⟨m + 1, by omega, by go_num, rfl⟩, by simp [intOf]; omega⟩
        · obtain rfl : m = 8 := by omega
          have hk1 : crcF 4294967295 (s.data.toList.take (k + 1)) = d := by
            have hlt' : k < s.data.toList.length := by simpa using hlt
            rw [List.take_succ_eq_append_getElem hlt', crcF_snoc, HC.out, ← he, ← HD.out]
            rfl
          have HK := Lib.hid hk1
          clear hk1 he hms hx
          go_wp2_with fail
          go_round
          case rel => exact ⟨k + 1, by omega, by go_num, by rw [HK.out]⟩
          case measure => simp [intOf]; omega
    · obtain rfl : k = s.size := by omega
      have hn := not_bits c hcl
      have he : crcSum s.data.toList = 4294967295 - c := by
        unfold crcSum
        rw [← hc, List.take_of_length_le (by simp)]
      have HE := Lib.hid he
      clear hc he
      go_wp2_with fail
      go_ret
      exact ⟨by rw [HE.out]; rfl, rfl⟩
end Go.Proofs.YtljabmkmngbhkaaGreatDoor
namespace Go.Proofs.YtljabmkmngbhkaaGreatDoor
open Go.RowKit
set_option linter.unusedVariables false
set_option linter.unusedSimpArgs false

structure FileV where
  data : ByteArray
  lasts : Nat
/-- Names with the numbers of their files; a step: changes of names (none: the name is gone). -/
abbrev Names := List (ByteArray × Nat)
abbrev StepV := List (ByteArray × Option Nat)
structure DiskV where
  room : Int
  files : List FileV
  names : Names
  lasts : Names
  queue : List StepV
  cutL : Int
  cutN : Int
  cutB : List Int
  fullL : Int
  off : Bool
def slt (a b : ByteArray) : Bool := decide (a.data.toList < b.data.toList)
def dropN (n : ByteArray) (l : Names) : Names := l.filter fun p => decide (p.1 ≠ n)
def insN (n : ByteArray) (i : Nat) : Names → Names
  | [] => [(n, i)]
  | p :: r => if slt n p.1 then (n, i) :: p :: r else p :: insN n i r
def doOne (l : Names) (c : ByteArray × Option Nat) : Names := match c.2 with | none => dropN c.1 l | some i => insN c.1 i (dropN c.1 l)
def doStep (l : Names) (s : StepV) : Names := s.foldl doOne l
def doAll (l : Names) (q : List StepV) : Names := q.foldl doStep l
def look : Names → ByteArray → Option Nat
  | [], _ => none
  | p :: r, n => if p.1 = n then some p.2 else look r n
def restI (n b : Int) : Int := if n < 0 then (-(n + 1)).tmod b else n.tmod b
def fileFix (bytes : List Int) (i : Nat) (f : FileV) : FileV :=
  let keep : Int := if bytes = [] then 0 else restI (bytes.getD (i % bytes.length) 0) ((f.data.size : Int) - f.lasts + 1)
  ⟨f.data.extract 0 (f.lasts + keep.toNat), f.lasts + keep.toNat⟩
def failD (D : DiskV) (names : Int) (bytes : List Int) : DiskV :=
  { D with lasts := doAll D.lasts (D.queue.take (restI names (D.queue.length + 1)).toNat), names := doAll D.lasts (D.queue.take (restI names (D.queue.length + 1)).toNat), queue := [],
           files := D.files.mapIdx (fileFix bytes), cutL := 0, cutN := 0, cutB := [], fullL := 0 }
def sizeOfN (files : List FileV) (p : ByteArray × Nat) : Int := match files[p.2]? with | some f => f.data.size | none => 0
def usedD (D : DiskV) : Int := (D.names.map (sizeOfN D.files)).sum
def spring (l : Int) : Bool × Int := if l = 0 then (false, 0) else (l - 1 == 0, l - 1)
def trapped (D : DiskV) : DiskV := { D with cutL := (spring D.cutL).2, fullL := (spring D.fullL).2 }
def changeD (D : DiskV) (atCut : Bool) (act : DiskV → DiskV) : Int × DiskV :=
  if (spring D.cutL).1 then (13, { failD (if atCut then act (trapped D) else trapped D) (if atCut then act (trapped D) else trapped D).cutN (if atCut then act (trapped D) else trapped D).cutB with off := true })
  else if (spring D.fullL).1 then (12, trapped D) else (0, act (trapped D))
def rename1 (s : StepV) (D : DiskV) : DiskV := { D with names := doStep D.names s, queue := D.queue ++ [s] }
def goodN (n : ByteArray) : Bool := decide (n.size ≠ 0) && decide (n.size ≤ 64)
def createA (n : ByteArray) (D : DiskV) : DiskV := rename1 [(n, some D.files.length)] { D with files := D.files ++ [⟨⟨#[]⟩, 0⟩] }
def setF (D : DiskV) (i : Nat) (f : FileV → FileV) : DiskV := { D with files := D.files.modify i f }
def appendA (i : Nat) (s : ByteArray) (D : DiskV) : DiskV := setF D i fun f => ⟨f.data ++ s, f.lasts⟩
def syncA (i : Nat) (D : DiskV) : DiskV := setF D i fun f => ⟨f.data, f.data.size⟩
def syncDirA (D : DiskV) : DiskV := { D with lasts := D.names, queue := [] }
def renameA (a b : ByteArray) (i : Nat) (D : DiskV) : DiskV := if a = b then D else rename1 [(b, some i), (a, none)] D
def removeA (n : ByteArray) (D : DiskV) : DiskV := rename1 [(n, none)] D

/-- The names point to files that are there; no name stands twice. -/
structure NamesOk (l : Names) (n : Nat) : Prop where
  lt : ∀ p ∈ l, p.2 < n
  one : l.Pairwise fun a b => a.1 ≠ b.1
  sz : ∀ p ∈ l, p.1.size ≤ 64
def StepOk (s : StepV) (n : Nat) : Prop := ∀ c ∈ s, c.1.size ≤ 64 ∧ ∀ i, c.2 = some i → i < n
structure DiskOk (D : DiskV) : Prop where
  names : NamesOk D.names D.files.length
  lasts : NamesOk D.lasts D.files.length
  queue : ∀ s ∈ D.queue, StepOk s D.files.length
  file : ∀ f ∈ D.files, f.lasts ≤ f.data.size ∧ f.data.size ≤ 1048576
  room : 0 ≤ D.room ∧ D.room ≤ 9223372036854775807
  cutL : 0 ≤ D.cutL ∧ D.cutL ≤ 9223372036854775807
  fullL : 0 ≤ D.fullL ∧ D.fullL ≤ 9223372036854775807
  cutN : -9223372036854775808 ≤ D.cutN ∧ D.cutN ≤ 9223372036854775807
  cutB : ∀ n ∈ D.cutB, -9223372036854775808 ≤ n ∧ n ≤ 9223372036854775807

theorem NamesOk.nil (n : Nat) : NamesOk [] n := ⟨by simp, List.Pairwise.nil, by simp⟩
theorem NamesOk.mono {l : Names} {n m : Nat} (h : NamesOk l n) (hn : n ≤ m) : NamesOk l m := ⟨fun p hp => Nat.lt_of_lt_of_le (h.lt p hp) hn, h.one, h.sz⟩
theorem mem_dropN {n : ByteArray} {l : Names} {p : ByteArray × Nat} : p ∈ dropN n l ↔ p ∈ l ∧ p.1 ≠ n := by simp [dropN]
theorem mem_insN {n : ByteArray} {i : Nat} {p : ByteArray × Nat} : ∀ {l : Names}, p ∈ insN n i l ↔ p = (n, i) ∨ p ∈ l
  | [] => by simp [insN]
  | q :: r => by
    unfold insN
    split
    · simp
    · rw [List.mem_cons, mem_insN, List.mem_cons]
      constructor
      · rintro (h | h | h) <;> simp [h]
      · rintro (h | h | h) <;> simp [h]
theorem NamesOk.drop {l : Names} {k : Nat} (h : NamesOk l k) (n : ByteArray) : NamesOk (dropN n l) k :=
  ⟨fun p hp => h.lt p (mem_dropN.1 hp).1, h.one.sublist List.filter_sublist, fun p hp => h.sz p (mem_dropN.1 hp).1⟩
theorem ins_one {n : ByteArray} {i : Nat} : ∀ {l : Names}, (l.Pairwise fun a b => a.1 ≠ b.1) → (∀ p ∈ l, p.1 ≠ n) → (insN n i l).Pairwise fun a b => a.1 ≠ b.1
  | [], _, _ => by simp [insN]
  | q :: r, h, hn => by
    unfold insN
    rw [List.pairwise_cons] at h
    split
    · rw [List.pairwise_cons, List.pairwise_cons]
      exact ⟨fun p hp => (hn p hp).symm, h⟩
    · rw [List.pairwise_cons]
      refine ⟨fun p hp => ?_, ins_one h.2 fun p hp => hn p (by simp [hp])⟩
      rcases mem_insN.1 hp with rfl | hp
      · exact hn q (by simp)
      · exact h.1 p hp
theorem NamesOk.ins {l : Names} {k : Nat} (h : NamesOk l k) (n : ByteArray) (i : Nat) (hi : i < k) (hn : n.size ≤ 64) : NamesOk (insN n i (dropN n l)) k :=
  ⟨fun p hp => by
    rcases mem_insN.1 hp with rfl | hp
    · exact hi
    · exact (h.drop n).lt p hp, ins_one (h.drop n).one fun p hp => (mem_dropN.1 hp).2, fun p hp => by
    rcases mem_insN.1 hp with rfl | hp
    · exact hn
    · exact (h.drop n).sz p hp⟩
theorem NamesOk.doOne {l : Names} {k : Nat} (h : NamesOk l k) (c : ByteArray × Option Nat) (hc : c.1.size ≤ 64 ∧ ∀ i, c.2 = some i → i < k) : NamesOk (doOne l c) k := by
  unfold Go.Proofs.YtljabmkmngbhkaaGreatDoor.doOne
  cases hc2 : c.2 with
  | none => exact h.drop _
  | some i => exact h.ins _ _ (hc.2 i hc2) hc.1
theorem NamesOk.doStep {k : Nat} : ∀ {s : StepV} {l : Names}, NamesOk l k → StepOk s k → NamesOk (doStep l s) k
  | [], l, h, _ => h
  | c :: s, l, h, hs => NamesOk.doStep (s := s) (h.doOne c (hs c (by simp))) fun d hd => hs d (by simp [hd])
theorem NamesOk.doAll {k : Nat} : ∀ {q : List StepV} {l : Names}, NamesOk l k → (∀ s ∈ q, StepOk s k) → NamesOk (doAll l q) k
  | [], l, h, _ => h
  | s :: q, l, h, hs => NamesOk.doAll (q := q) (h.doStep (hs s (by simp))) fun d hd => hs d (by simp [hd])
theorem look_some {l : Names} {n : ByteArray} {i : Nat} (h : look l n = some i) : (n, i) ∈ l := by
  induction l with
  | nil => simp [look] at h
  | cons p r ih =>
    unfold look at h
    split at h
    · rename_i he; cases h; simp [← he]
    · simp [ih h]
theorem look_none {l : Names} {n : ByteArray} (h : look l n = none) : ∀ p ∈ l, p.1 ≠ n := by
  induction l with
  | nil => simp
  | cons p r ih =>
    unfold look at h
    split at h
    · cases h
    · rename_i he
      intro q hq
      rcases List.mem_cons.1 hq with rfl | hq
      · exact he
      · exact ih h q hq
theorem look_cons (p : ByteArray × Nat) (r : Names) (n : ByteArray) : look (p :: r) n = if p.1 = n then some p.2 else look r n := rfl
theorem dropN_len {l : Names} {n : ByteArray} (h : l.Pairwise fun a b => a.1 ≠ b.1) : (dropN n l).length = if (look l n).isSome then l.length - 1 else l.length := by
  induction l with
  | nil => rfl
  | cons p r ih =>
    rw [List.pairwise_cons] at h
    have ih' := ih h.2
    clear ih
    rw [look_cons]
    unfold dropN at *
    by_cases hp : p.1 = n
    · have hr : (r.filter fun p => decide (p.1 ≠ n)) = r := by
        rw [List.filter_eq_self]
        intro q hq
        have := h.1 q hq
        rw [hp] at this
        simpa using this.symm
      simp only [List.filter_cons, hp, ne_eq, not_true_eq_false, decide_false, Bool.false_eq_true, ↓reduceIte, Option.isSome_some, List.length_cons]
      rw [hr]; rfl
    · simp only [List.filter_cons, hp, ne_eq, not_false_eq_true, decide_true, ↓reduceIte, List.length_cons]
      rw [ih']
      cases hl : look r n with
      | none => simp
      | some i =>
        have := List.length_pos_of_mem (look_some hl)
        simp; omega
theorem insN_len (n : ByteArray) (i : Nat) : ∀ l : Names, (insN n i l).length = l.length + 1
  | [] => rfl
  | p :: r => by
    unfold insN
    split
    · simp
    · simp [insN_len n i r]
theorem restI_bd {n b : Int} (hb : 0 < b) : 0 ≤ restI n b ∧ restI n b < b := by
  unfold restI
  split
  · exact ⟨Int.tmod_nonneg _ (by omega), Int.tmod_lt_of_pos _ hb⟩
  · exact ⟨Int.tmod_nonneg _ (by omega), Int.tmod_lt_of_pos _ hb⟩
/-! ### What a call leaves is good -/
theorem StepOk.mono {s : StepV} {n m : Nat} (h : StepOk s n) (hn : n ≤ m) : StepOk s m := fun c hc => ⟨(h c hc).1, fun i hi => Nat.lt_of_lt_of_le ((h c hc).2 i hi) hn⟩
theorem spring_le {l : Int} (h : 0 ≤ l ∧ l ≤ 9223372036854775807) : 0 ≤ (spring l).2 ∧ (spring l).2 ≤ 9223372036854775807 := by
  unfold spring
  split
  · simp
  · simp only; omega
theorem trapped_ok {D : DiskV} (h : DiskOk D) : DiskOk (trapped D) := { h with cutL := spring_le h.cutL, fullL := spring_le h.fullL }
theorem rename1_ok {D : DiskV} {s : StepV} (h : DiskOk D) (hs : StepOk s D.files.length) : DiskOk (rename1 s D) :=
  ⟨h.names.doStep hs, h.lasts, fun t ht => by
      rcases List.mem_append.1 ht with ht | ht
      · exact h.queue t ht
      · simp at ht; subst ht; exact hs, h.file, h.room, h.cutL, h.fullL, h.cutN, h.cutB⟩
theorem fileFix_ok {bytes : List Int} {i : Nat} {f : FileV} (h : f.lasts ≤ f.data.size ∧ f.data.size ≤ 1048576) : (fileFix bytes i f).lasts ≤ (fileFix bytes i f).data.size ∧ (fileFix bytes i f).data.size ≤ 1048576 := by
  unfold fileFix
  have hk : f.lasts + (if bytes = [] then (0 : Int) else restI (bytes.getD (i % bytes.length) 0) ((f.data.size : Int) - f.lasts + 1)).toNat ≤ f.data.size := by
    split
    · simpa using h.1
    · have := restI_bd (n := bytes.getD (i % bytes.length) 0) (b := (f.data.size : Int) - f.lasts + 1) (by omega)
      omega
  simp only [ByteArray.size_extract]
  omega
theorem fail_ok {D : DiskV} (h : DiskOk D) (names : Int) (bytes : List Int) : DiskOk (failD D names bytes) := by
  have hl : NamesOk (doAll D.lasts (D.queue.take (restI names (D.queue.length + 1)).toNat)) D.files.length := h.lasts.doAll fun s hs => h.queue s (List.mem_of_mem_take hs)
  refine ⟨by simpa [failD] using hl, by simpa [failD] using hl, by simp [failD], fun f hf => ?_, h.room, by simp [failD], by simp [failD], by simp [failD], by simp [failD]⟩
  simp only [failD, List.mem_mapIdx] at hf
  obtain ⟨i, hi, rfl⟩ := hf
  exact fileFix_ok (h.file _ (List.getElem_mem hi))
theorem off_ok {D : DiskV} (h : DiskOk D) (b : Bool) : DiskOk { D with off := b } := { h with }
theorem create_ok {D : DiskV} (h : DiskOk D) {n : ByteArray} (hn : n.size ≤ 64) : DiskOk (createA n D) := by
  refine rename1_ok (D := { D with files := D.files ++ [⟨⟨#[]⟩, 0⟩] }) ⟨h.names.mono (by simp), h.lasts.mono (by simp), fun s hs => (h.queue s hs).mono (by simp), fun f hf => ?_, h.room, h.cutL, h.fullL, h.cutN, h.cutB⟩ ?_
  · rcases List.mem_append.1 hf with hf | hf
    · exact h.file f hf
    · simp at hf; subst hf; exact ⟨Nat.le_refl _, by simp [ByteArray.size]⟩
  · intro c hc
    simp at hc; subst hc
    exact ⟨hn, fun i hi => by cases hi; simp⟩
theorem setF_ok {D : DiskV} (h : DiskOk D) {i : Nat} {g : FileV → FileV} (hg : ∀ f, D.files[i]? = some f → (g f).lasts ≤ (g f).data.size ∧ (g f).data.size ≤ 1048576) : DiskOk (setF D i g) := by
  have hl : (D.files.modify i g).length = D.files.length := by simp
  refine ⟨by simpa [setF] using h.names, by simpa [setF] using h.lasts, by simpa [setF] using h.queue, fun f hf => ?_, h.room, h.cutL, h.fullL, h.cutN, h.cutB⟩
  simp only [setF] at hf
  obtain ⟨j, hj, rfl⟩ := List.mem_iff_getElem.1 hf
  rw [List.getElem_modify]
  split
  · rename_i e
    subst e
    exact hg _ (List.getElem?_eq_getElem (by rw [← hl]; exact hj))
  · exact h.file _ (List.getElem_mem _)
theorem syncDir_ok {D : DiskV} (h : DiskOk D) : DiskOk (syncDirA D) := { h with lasts := h.names, queue := by simp [syncDirA] }
theorem rename_ok {D : DiskV} (h : DiskOk D) {a b : ByteArray} {i : Nat} (hi : i < D.files.length) (ha : a.size ≤ 64) (hb : b.size ≤ 64) : DiskOk (renameA a b i D) := by
  unfold renameA
  split
  · exact h
  · refine rename1_ok h fun c hc => ?_
    simp at hc
    rcases hc with rfl | rfl
    · exact ⟨hb, fun j hj => by cases hj; exact hi⟩
    · exact ⟨ha, fun j hj => by cases hj⟩
theorem remove_ok {D : DiskV} (h : DiskOk D) {n : ByteArray} (hn : n.size ≤ 64) : DiskOk (removeA n D) :=
  rename1_ok h fun c hc => by
    simp at hc; subst hc
    exact ⟨hn, fun j hj => by cases hj⟩
end Go.Proofs.YtljabmkmngbhkaaGreatDoor
