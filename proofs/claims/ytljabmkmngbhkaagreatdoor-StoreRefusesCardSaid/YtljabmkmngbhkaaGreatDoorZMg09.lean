/-
  The disk: Append, Remove, Read.
  The disk: Read, Crash, Cut, New.
-/
import Derived.Test.YtljabmkmngbhkaaGreatDoorZMg08
import Derived.Laws.BytesString
namespace Go.Proofs.YtljabmkmngbhkaaGreatDoor
open Go.RowKit
set_option linter.unusedVariables false
set_option linter.unusedSimpArgs false

def dataOf (D : DiskV) (i : Nat) : ByteArray := match D.files[i]? with | some f => f.data | none => ⟨#[]⟩
def appendD (D : DiskV) (n s : ByteArray) : Int × DiskV := if D.off then (13, D) else match look D.names n with
  | some i => if 1048576 < (dataOf D i).size + s.size ∨ D.room < usedD D + s.size then (12, D) else changeD D true (appendA i s)
  | none => (10, D)
def readD (D : DiskV) (n : ByteArray) : ByteArray × Int := if D.off then (⟨#[]⟩, 13) else match look D.names n with | some i => (dataOf D i, 0) | none => (⟨#[]⟩, 10)

theorem sum_bound (g : ByteArray × Nat → Int) (B : Int) : ∀ l : Names, (∀ p ∈ l, 0 ≤ g p ∧ g p ≤ B) → 0 ≤ (l.map g).sum ∧ (l.map g).sum ≤ B * l.length
  | [], _ => by simp
  | p :: r, h => by
    obtain ⟨a, b⟩ := sum_bound g B r fun q hq => h q (by simp [hq])
    obtain ⟨c, e⟩ := h p (by simp)
    rw [List.map_cons, List.sum_cons, List.length_cons, Int.natCast_succ, Int.mul_add, Int.mul_one]
    omega
theorem used_bound {D : DiskV} (h : DiskOk D) : 0 ≤ usedD D ∧ usedD D ≤ 1048576 * D.names.length := by
  unfold usedD
  refine sum_bound _ _ _ fun p hp => ?_
  unfold sizeOfN
  have hi := h.names.lt p hp
  rw [List.getElem?_eq_getElem hi]
  have := (h.file _ (List.getElem_mem hi)).2
  simp only
  omega

set_option maxRecDepth 100000 in
set_option maxHeartbeats 4000000 in
theorem disk_append (d : Nat) (ids : List Nat) (D : DiskV) (M : Nat → Prop) (n s : ByteArray) (hn : n.size ≤ maxLen) (hs : s.size ≤ 140737488355328) (hN : D.names.length ≤ 1000000) (hq : D.queue.length ≤ 999999990) (w : World) (h : DiskAt w d ids D M) :
    Calls Tryz.prog 90 #[.pointer (some ⟨d, 0, none⟩), .string n, .string s] w fun e w' => e = .returned (.int .i64 (appendD D n s).1) ∧ DPost w d ids M (appendD D n s).2 w' := by
  have hlt := h.lt
  have hdl := h.d_lt
  have H := Lib.hid h
  have HLT := Lib.hid hlt
  unfold appendD
  obtain ⟨W1, hW1⟩ : ∃ W1, W1 = w.alloc (.cells #[.string s] 9) := ⟨_, rfl⟩
  have hc1 : Chg (fun _ => False) w W1 := by rw [hW1]; exact cgS
  have hbs : Blk W1 w.heap.size 9 #[.string s] := by rw [hW1]; exact Blk.new w _ _
  have hs1 : W1.heap.size = w.heap.size + 1 := by rw [hW1]; simp
  have h1 := h.same hc1
  have hfind := disk_find d ids D M n hn W1 h1
  unfold findV at hfind
  have b0 := hbs.cell 0
  simp at b0
  have HW1 := Lib.hid hW1
  have HC1 := Lib.hid hc1
  have HBS := Lib.hid hbs
  have H1 := Lib.hid h1
  have HS1 := Lib.hid hs1
  have hpost : ∀ W, Chg (fun _ => False) w W → DPost w d ids M D W := fun W hW => DPost.same (H.out.same hW) HLT.out (hW.mono (by simp))
  have HP0 := Lib.hid hpost
  clear hW1 hc1 hbs h1 hpost hlt hs1
  cases ho : D.off with
  | true =>
    rw [ho] at hfind
    have HFI := Lib.hid hfind
    clear hfind ho h
    go_enter Tryz.func90, Tryz.ntmps90
    go_wp2_with fail
    rw [← HW1.out]
    refine HFI.out.mono ?_
    rintro e w' ⟨rfl, rfl⟩
    go_wp2_with fail
    go_ret
    exact ⟨rfl, HP0.out _ (HC1.out.then cgS)⟩
  | false =>
    rw [ho] at hfind
    cases hk : look D.names n with
    | none =>
      rw [hk] at hfind
      have HFI := Lib.hid hfind
      clear hfind ho h hk
      go_enter Tryz.func90, Tryz.ntmps90
      go_wp2_with fail
      rw [← HW1.out]
      refine HFI.out.mono ?_
      rintro e w' ⟨rfl, rfl⟩
      go_wp2_with fail
      go_ret
      exact ⟨rfl, HP0.out _ (HC1.out.then cgS)⟩
    | some i =>
      rw [hk] at hfind
      have hi := h.1.names.lt _ (look_some hk)
      have hdo : dataOf D i = D.files[i].data := by unfold dataOf; rw [List.getElem?_eq_getElem hi]
      simp only [Bool.false_eq_true, if_false, hdo]
      have hfok := h.1.file _ (List.getElem_mem hi)
      have hroom := h.1.room
      obtain ⟨W2, hW2⟩ : ∃ W2, W2 = W1.alloc (.cells #[fptr ids i] 251) := ⟨_, rfl⟩
      have hc2 : Chg (fun _ => False) W1 W2 := by rw [hW2]; exact cgS
      have hbf : Blk W2 W1.heap.size 251 #[fptr ids i] := by rw [hW2]; exact Blk.new W1 _ _
      have hbs2 := HBS.out.chg hc2 (by simp)
      have h2 := H1.out.same hc2
      have hcells : ∃ id va vc, ids.getD i 0 = id ∧ W2.cell? ⟨id, 0, none⟩ = some (.slice va D.files[i].data.size vc) ∧ W2.cell? ⟨d, 0, none⟩ = some (.int .i64 D.room) ∧ id < W2.heap.size := by
        obtain ⟨_, y, hy⟩ := h2
        obtain ⟨id, v, e1, e2, hb, ho⟩ := hy.files.at_ hi
        obtain ⟨va, vc, hvv, _, _, _⟩ := ho.reads
        refine ⟨id, va, vc, ?_, ?_, ?_, hb.lt⟩
        · rw [List.getD_eq_getElem?_getD, e1]; rfl
        · have := hb.cell 0
          rw [hvv] at this
          simpa using this
        · have := hy.blk.cell 0
          simpa using this
      obtain ⟨id, va, vc, hid, cid, cd, hidl⟩ := hcells
      have hs1 := HS1.out
      have hdl2 : d < W2.heap.size := h2.d_lt
      have hbsl := hbs2.lt
      have hbfl := hbf.lt
      have hused := fun W (hW : Chg (fun _ => False) W2 W) => disk_used d ids D M W (h2.same hW) hN
      have hub : 0 ≤ usedD D ∧ usedD D ≤ 1048576000000 := by
        have hb := used_bound h.1
        omega
      have hch := fun (hsz : D.files[i].data.size + s.size ≤ 1048576) W (hW : Chg (fun _ => False) W2 W) => disk_change d ids D M true 173 #[.pointer (some ⟨W1.heap.size, 0, none⟩), .pointer (some ⟨w.heap.size, 0, none⟩)] (appendA i s) W (h2.same hW) (by simp [appendA, setF, trapped]; omega) (by omega) (enters _ _ (by kernel_rfl))
        (fun W' y' hy hW' => act_append d ids (trapped D) y' M W' W1.heap.size w.heap.size i s (trapped_ok h.1) hi hsz hy ((hbf.chg hW (by simp)).chg hW' (by omega)) ((hbs2.chg hW (by simp)).chg hW' (by omega)))
      have hidW : fptr ids i = .pointer (some ⟨id, 0, none⟩) := by unfold fptr; rw [hid]
      simp only [Bool.false_eq_true, if_false] at hfind
      rw [hidW] at hfind hW2
      have k0 := hbf.cell 0
      have k1 := hbs2.cell 0
      simp at k0 k1
      rw [hidW] at k0
      have HFI := Lib.hid hfind
      have HCH := Lib.hid hch
      have HW2 := Lib.hid hW2
      have HC2 := Lib.hid hc2
      have HUS := Lib.hid hused
      have hsz1 := hfok.2
      clear hfok
      generalize D.files[i].data.size = sz at *
      generalize usedD D = us at *
      clear hfind ho h hk hi hch hW2 hc2 hbf hbs2 hidW hid h2 hused hdo hs1
      obtain ⟨hub0, hub1⟩ := hub
      obtain ⟨hr0, hr1⟩ := hroom
      by_cases hbig : 1048576 < sz + s.size
      · rw [if_pos (Or.inl hbig)]
        have hbig' : (1048576 : Int) < (sz : Int) + (s.size : Int) := by omega
        have hw1 : IntKind.i64.wrap ((sz : Int) + (s.size : Int)) = (sz : Int) + (s.size : Int) := IntWalk.i64_in _ (by omega)
        go_enter Tryz.func90, Tryz.ntmps90
        go_wp2_with fail
        rw [← HW1.out]
        refine HFI.out.mono ?_
        rintro e w' ⟨rfl, rfl⟩
        go_wp2_with fail
        rw [← HW2.out]
        go_quiet (fail)
        clear hw1
        go_wp2_with fail
        go_ret
        exact ⟨rfl, HP0.out _ (HC1.out.then (HC2.out.then cgS))⟩
      · have hbig' : ¬ ((1048576 : Int) < (sz : Int) + (s.size : Int)) := by omega
        have hw1 : IntKind.i64.wrap ((sz : Int) + (s.size : Int)) = (sz : Int) + (s.size : Int) := IntWalk.i64_in _ (by omega)
        have hw2 : IntKind.i64.wrap (us + (s.size : Int)) = us + (s.size : Int) := IntWalk.i64_in _ (by omega)
        have hd1 : decide ((1048576 : Int) < (sz : Int) + (s.size : Int)) = false := decide_eq_false hbig'
        clear hbig'
        by_cases hroom : D.room < us + (s.size : Int)
        · rw [if_pos (Or.inr hroom)]
          go_enter Tryz.func90, Tryz.ntmps90
          go_wp2_with fail
          rw [← HW1.out]
          refine HFI.out.mono ?_
          rintro e w' ⟨rfl, rfl⟩
          go_wp2_with fail
          rw [← HW2.out]
          go_region_held3 (fun w' => w'.cell? ⟨W1.heap.size, 0, none⟩ = some (.pointer (some ⟨id, 0, none⟩)) ∧ w'.cell? ⟨w.heap.size, 0, none⟩ = some (.string s) ∧ w'.cell? ⟨id, 0, none⟩ = some (.slice va sz vc) ∧ w'.cell? ⟨d, 0, none⟩ = some (.int .i64 D.room))
            (first | (go_keep; done) | (go_split_ands; refine ⟨?_, ?_, ?_, ?_⟩ <;> (rw [hc3.cell (by simpa using (by assumption)) (by simp)]; assumption)))
            (first
              | (go_at_call 171; (with_reducible refine (HUS.out _ ?_).mono ?_); exact cgS; rintro e w3 ⟨rfl, hc3⟩))
          have hcw : Chg (fun _ => False) w w3 := HC1.out.then (HC2.out.then (Chg.then cgS hc3))
          have HCW := Lib.hid hcw
          clear hw1 hw2 hc3 hcw
          go_wp2_with fail
          go_ret
          exact ⟨rfl, HP0.out _ (HCW.out.then cgS)⟩
        · rw [if_neg (fun h => h.elim hbig hroom)]
          go_enter Tryz.func90, Tryz.ntmps90
          go_wp2_with fail
          rw [← HW1.out]
          refine HFI.out.mono ?_
          rintro e w' ⟨rfl, rfl⟩
          go_wp2_with fail
          rw [← HW2.out]
          go_region_held3 (fun w' => w'.cell? ⟨W1.heap.size, 0, none⟩ = some (.pointer (some ⟨id, 0, none⟩)) ∧ w'.cell? ⟨w.heap.size, 0, none⟩ = some (.string s) ∧ w'.cell? ⟨id, 0, none⟩ = some (.slice va sz vc) ∧ w'.cell? ⟨d, 0, none⟩ = some (.int .i64 D.room))
            (first | (go_keep; done) | (go_split_ands; refine ⟨?_, ?_, ?_, ?_⟩ <;> (rw [hc3.cell (by simpa using (by assumption)) (by simp)]; assumption)))
            (first
              | (go_at_call 171; (with_reducible refine (HUS.out _ ?_).mono ?_); exact cgS; rintro e w3 ⟨rfl, hc3⟩))
          have hcw : Chg (fun _ => False) w w3 := HC1.out.then (HC2.out.then (Chg.then cgS hc3))
          have hch3 := HCH.out (by omega) w3 (Chg.then cgS hc3)
          have HCW := Lib.hid hcw
          have HCH3 := Lib.hid hch3
          clear hw1 hw2 hc3 hcw hch3 hd1
          go_wp2_with fail
          refine HCH3.out.mono ?_
          rintro e w4 ⟨rfl, hp⟩
          have HP := Lib.hid hp
          clear hp
          go_wp2_with fail
          go_ret
          exact ⟨rfl, HP.out.first HLT.out (HCW.out.mono (by simp))⟩

end Go.Proofs.YtljabmkmngbhkaaGreatDoor
namespace Go.Proofs.YtljabmkmngbhkaaGreatDoor
open Go.RowKit
set_option linter.unusedVariables false
set_option linter.unusedSimpArgs false

theorem fold_push (l : List UInt8) : ∀ acc : ByteArray, (l.map fun b => (b.toNat : Int)).foldl (fun (r : ByteArray) (n : Int) => r.push (UInt8.ofNat n.toNat)) acc = acc ++ ⟨l.toArray⟩ := by
  induction l with
  | nil => intro acc; apply ByteArray.ext; simp
  | cons x xs ih =>
    intro acc
    rw [List.map_cons, List.foldl_cons, ih]
    apply ByteArray.ext
    simp
/-- string(b), of bytes of one's own. -/
theorem run_own_string {w : World} {v : Value} {s : ByteArray} (h : Own w 5 1 v s.size (byteCells s)) : (convert 169 9 v).run Tryz.prog w = .ok (.string s) w := by
  obtain ⟨a, cap, rfl, _, _, hr⟩ := h.reads
  rw [run_convert_bytes_string w 169 9 5 a s.size cap Tryz.underlying169 Tryz.underlying5 Tryz.underlying9]
  cases ha : a with
  | none =>
    have hz : s.size = 0 := by
      rcases Nat.eq_zero_or_pos s.size with h0 | h0
      · exact h0
      · obtain ⟨b, hb, _⟩ := hr h0
        rw [ha] at hb; cases hb
    have he : s = ⟨#[]⟩ := by
      cases s with | mk x => cases x with | mk l => cases l with | nil => rfl | cons y ys => simp [ByteArray.size] at hz
    subst he
    rfl
  | some ad =>
    have hn : (byteCells s).length = s.size * 1 := by rw [byteCells_length, Nat.mul_one]
    have hcells : ∀ j u, (byteCells s)[j]? = some u → w.cell? (ad.add j) = some u := fun j u hu => by
      have hj : j < s.size := by have := (List.getElem?_eq_some_iff.1 hu).1; rw [byteCells_length] at this; exact this
      obtain ⟨b, hb, _, _, hc⟩ := hr (by omega)
      rw [ha] at hb
      cases hb
      have e : (⟨b, 0, none⟩ : Addr).add j = ⟨b, j, none⟩ := by rw [Addr.add_lit]; simp
      rw [e]
      exact hc j u hu
    have hl : (loadCells ad (s.size * 1)).run Tryz.prog w = .ok (byteCells s).toArray w := run_firstCells_some w 1 s.size ad s.size cap (byteCells s) hn hcells
    rw [Nat.mul_one] at hl
    have hb : byteCells s = (s.data.toList.map fun b => (b.toNat : Int)).map (Value.int .u8) := by unfold byteCells; rw [List.map_map]; rfl
    rw [hb] at hl
    rw [run_bytesToString w ad s.size cap _ hl, fold_push]
    congr 1
theorem disk_read (d : Nat) (ids : List Nat) (D : DiskV) (M : Nat → Prop) (n : ByteArray) (hn : n.size ≤ maxLen) (w : World) (h : DiskAt w d ids D M) :
    Calls Tryz.prog 138 #[.pointer (some ⟨d, 0, none⟩), .string n] w fun e w' => e = .returned (.tuple #[.string (readD D n).1, .int .i64 (readD D n).2]) ∧ Chg (fun _ => False) w w' := by
  have hfind := disk_find d ids D M n hn w h
  unfold findV at hfind
  unfold readD
  cases ho : D.off with
  | true =>
    rw [ho] at hfind
    have HFI := Lib.hid hfind
    clear hfind ho h
    go_enter Tryz.func138, Tryz.ntmps138
    go_wp2_with fail
    refine HFI.out.mono ?_
    rintro e w' ⟨rfl, rfl⟩
    go_wp2_with fail
    go_ret2
    exact ⟨rfl, Chg.refl _ _⟩
  | false =>
    rw [ho] at hfind
    cases hk : look D.names n with
    | none =>
      rw [hk] at hfind
      have HFI := Lib.hid hfind
      clear hfind ho h hk
      go_enter Tryz.func138, Tryz.ntmps138
      go_wp2_with fail
      refine HFI.out.mono ?_
      rintro e w' ⟨rfl, rfl⟩
      go_wp2_with fail
      go_ret2
      exact ⟨rfl, Chg.refl _ _⟩
    | some i =>
      rw [hk] at hfind
      have hi := h.1.names.lt _ (look_some hk)
      have hdo : dataOf D i = D.files[i].data := by unfold dataOf; rw [List.getElem?_eq_getElem hi]
      simp only [Bool.false_eq_true, if_false, hdo] at hfind ⊢
      have hc : ∃ id v, ids.getD i 0 = id ∧ w.cell? ⟨id, 0, none⟩ = some v ∧ (∃ a n c, v = .slice a n c) ∧ (convert 169 9 v).run Tryz.prog w = .ok (.string D.files[i].data) w := by
        obtain ⟨_, y, hy⟩ := h
        obtain ⟨id, v, e1, e2, hb, ho⟩ := hy.files.at_ hi
        obtain ⟨va, vc, hvv, _, _, _⟩ := ho.reads
        exact ⟨id, v, by rw [List.getD_eq_getElem?_getD, e1]; rfl, hb.cell 0, ⟨_, _, _, hvv⟩, run_own_string ho⟩
      obtain ⟨id, v, hid, hcell, ⟨a, m, c, rfl⟩, hconv⟩ := hc
      rw [show fptr ids i = .pointer (some ⟨id, 0, none⟩) from by unfold fptr; rw [hid]] at hfind
      have HFI := Lib.hid hfind
      generalize D.files[i].data = s at *
      clear hfind ho h hk hdo hid hi
      go_enter Tryz.func138, Tryz.ntmps138
      go_wp2_with fail
      refine HFI.out.mono ?_
      rintro e w' ⟨rfl, rfl⟩
      go_wp2_with fail
      go_ret2
      exact ⟨rfl, Chg.refl _ _⟩

def startD (room : Int) : DiskV := ⟨max 0 room, [], [], [], [], 0, 0, [], 0, false⟩
theorem disk_new (room : Int) (hr : room ≤ 9223372036854775807) (w : World) :
    Calls Tryz.prog 5 #[.int .i64 room] w fun e w' => e = .returned (.pointer (some ⟨w.heap.size + 2, 0, none⟩)) ∧ DiskAt w' (w.heap.size + 2) [] (startD room) (fun k => w.heap.size ≤ k ∧ k < w'.heap.size) ∧ Chg (fun _ => False) w w' ∧ w'.heap.size = w.heap.size + 3 := by
  have hm1 : ∀ w : World, (Instr.makeMap 87 none).run Tryz.prog w = .ok (.map (some w.heap.size)) (w.alloc (.map #[] 0)) := fun w => run_makeMap 87 w
  have hkey : ∀ m : Int, m = max 0 room → DiskAt (((w.alloc (.map #[] 0)).alloc (.map #[] 0)).alloc (.cells #[.int .i64 m, .slice none 0 0, .map (some w.heap.size), .map (some (w.heap.size + 1)), .slice none 0 0, .int .i64 0, .int .i64 0, .slice none 0 0, .int .i64 0, .int .i64 0, .slice none 0 0, .bool false] 93)) (w.heap.size + 2) [] (startD room) (fun k => w.heap.size ≤ k ∧ k < (((w.alloc (.map #[] 0)).alloc (.map #[] 0)).alloc (.cells #[.int .i64 m, .slice none 0 0, .map (some w.heap.size), .map (some (w.heap.size + 1)), .slice none 0 0, .int .i64 0, .int .i64 0, .slice none 0 0, .int .i64 0, .int .i64 0, .slice none 0 0, .bool false] 93)).heap.size) := by
    rintro m rfl
    obtain ⟨W, hW⟩ : ∃ W, W = ((w.alloc (.map #[] 0)).alloc (.map #[] 0)).alloc (.cells #[.int .i64 (max 0 room), .slice none 0 0, .map (some w.heap.size), .map (some (w.heap.size + 1)), .slice none 0 0, .int .i64 0, .int .i64 0, .slice none 0 0, .int .i64 0, .int .i64 0, .slice none 0 0, .bool false] 93) := ⟨_, rfl⟩
    rw [← hW]
    have hb : Blk W (w.heap.size + 2) 93 #[.int .i64 (max 0 room), .slice none 0 0, .map (some w.heap.size), .map (some (w.heap.size + 1)), .slice none 0 0, .int .i64 0, .int .i64 0, .slice none 0 0, .int .i64 0, .int .i64 0, .slice none 0 0, .bool false] := by
      rw [hW]
      have := Blk.new ((w.alloc (.map #[] 0)).alloc (.map #[] 0)) 93 #[.int .i64 (max 0 room), .slice none 0 0, .map (some w.heap.size), .map (some (w.heap.size + 1)), .slice none 0 0, .int .i64 0, .int .i64 0, .slice none 0 0, .int .i64 0, .int .i64 0, .slice none 0 0, .bool false]
      simpa using this
    have hs : W.heap.size = w.heap.size + 3 := by rw [hW]; simp
    have hmap1 : MapAt Tryz.prog 9 W w.heap.size 0 (fun _ => none) := by
      rw [hW]
      exact (MapAt.new Tryz.prog 9 w).chg (S := fun _ => False) cgS (by simp)
    have hmap2 : MapAt Tryz.prog 9 W (w.heap.size + 1) 0 (fun _ => none) := by
      have := (MapAt.new Tryz.prog 9 (w.alloc (.map #[] 0))).chg (S := fun _ => False) (w' := W) (by rw [hW]; exact cgS) (by simp)
      simpa using this
    refine ⟨⟨NamesOk.nil _, NamesOk.nil _, by simp [startD], by simp [startD], by simp only [startD]; omega, by simp [startD], by simp [startD], by simp [startD], by simp [startD]⟩, ⟨.slice none 0 0, .slice none 0 0, .slice none 0 0, w.heap.size, w.heap.size + 1, [], []⟩, hb, ⟨rfl, own_nil, by simp [startD], rfl, List.Pairwise.nil, by simp [blockAt]⟩, ⟨0, _, hmap1, fun k v => by simp [startD], rfl⟩, ⟨0, _, hmap2, fun k v => by simp [startD], rfl⟩, by simp, ⟨own_nil, by simp [startD]⟩, own_nil, ?_, fun k hk => hk.2⟩
    rintro k (e | e | e | e | e | e)
    · exact ⟨by omega, by omega⟩
    · rcases e with e | e | ⟨i, e⟩
      · simp at e
      · simp [Value.ownBlock] at e
      · simp [blockAt] at e
    · have e' : k = w.heap.size := e
      exact ⟨by omega, by omega⟩
    · have e' : k = w.heap.size + 1 := e
      exact ⟨by omega, by omega⟩
    · rcases e with e | ⟨i, e⟩
      · simp [Value.ownBlock] at e
      · simp [blockAt] at e
    · simp [Value.ownBlock] at e
  go_enter Tryz.func5, Tryz.ntmps5
  go_wp2_with fail
  all_goals
    go_ret
    exact ⟨rfl, hkey _ (by omega), cgS, by simp⟩

end Go.Proofs.YtljabmkmngbhkaaGreatDoor
