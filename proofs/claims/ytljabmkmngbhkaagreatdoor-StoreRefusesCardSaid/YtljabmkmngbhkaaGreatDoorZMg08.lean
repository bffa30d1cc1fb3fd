/-
  The disk: Sync, SyncDir, Rename, Remove.
  The disk: Rename, Create.
-/
import Derived.Test.YtljabmkmngbhkaaGreatDoorZMg07
namespace Go.Proofs.YtljabmkmngbhkaaGreatDoor
open Go.RowKit
set_option linter.unusedVariables false
set_option linter.unusedSimpArgs false

def syncD (D : DiskV) (n : ByteArray) : Int × DiskV := if D.off then (13, D) else match look D.names n with | some i => changeD D false (syncA i) | none => (10, D)
def syncDirD (D : DiskV) : Int × DiskV := if D.off then (13, D) else changeD D false syncDirA
def renameD (D : DiskV) (a b : ByteArray) : Int × DiskV := if D.off then (13, D) else match look D.names a with | some i => if goodN b then changeD D true (renameA a b i) else (2, D) | none => (10, D)
def removeD (D : DiskV) (n : ByteArray) : Int × DiskV := if D.off then (13, D) else match look D.names n with | some i => changeD D true (removeA n) | none => (10, D)
theorem enters (K : Nat) (caps : Array Value) (h : (Tryz.prog.funcs[K]?).any (fun f => !(f.name == "runtime.NumGoroutine") && f.body.isSome) = true) : ∀ W : World, (callFunc K caps).run Tryz.prog W = .ok (.enter K caps) W := by
  intro W
  cases hf : Tryz.prog.funcs[K]? with
  | none => rw [hf] at h; simp at h
  | some fn =>
    rw [hf] at h
    simp only [Option.any_some, Bool.and_eq_true, Bool.not_eq_true'] at h
    obtain ⟨h1, h2⟩ := h
    have h3 : fn.body.isNone = false := by cases hb : fn.body with | none => rw [hb] at h2; cases h2 | some c => rfl
    have h4 : fn.name ≠ "runtime.NumGoroutine" := by simpa using h1
    have h5 : fn.body ≠ none := by intro e; rw [e] at h3; cases h3
    have hp : (Sem.program Sem.pure : Sem Program).run Tryz.prog W = .ok Tryz.prog W := rfl
    simp [callFunc, program, hp, hf, h4, h5, Result.andThen]

set_option maxRecDepth 100000 in
set_option maxHeartbeats 2000000 in
theorem disk_sync (d : Nat) (ids : List Nat) (D : DiskV) (M : Nat → Prop) (n : ByteArray) (hn : n.size ≤ maxLen) (hq : D.queue.length ≤ 999999990) (w : World) (h : DiskAt w d ids D M) :
    Calls Tryz.prog 92 #[.pointer (some ⟨d, 0, none⟩), .string n] w fun e w' => e = .returned (.int .i64 (syncD D n).1) ∧ DPost w d ids M (syncD D n).2 w' := by
  have hlt := h.lt
  have hfind := disk_find d ids D M n hn w h
  have H := Lib.hid h
  have HLT := Lib.hid hlt
  unfold syncD
  unfold findV at hfind
  cases ho : D.off with
  | true =>
    rw [ho] at hfind
    have HFI := Lib.hid hfind
    have hpost : ∀ W, Chg (fun _ => False) w W → DPost w d ids M D W := fun W hW => DPost.same (H.out.same hW) HLT.out (hW.mono (by simp))
    have HP := Lib.hid hpost
    clear hfind ho h hlt hpost
    go_enter Tryz.func92, Tryz.ntmps92
    go_wp2_with fail
    refine HFI.out.mono ?_
    rintro e w' ⟨rfl, rfl⟩
    go_wp2_with fail
    go_ret
    exact ⟨rfl, HP.out _ cgS⟩
  | false =>
    rw [ho] at hfind
    cases hk : look D.names n with
    | none =>
      rw [hk] at hfind
      have HFI := Lib.hid hfind
      have hpost : ∀ W, Chg (fun _ => False) w W → DPost w d ids M D W := fun W hW => DPost.same (H.out.same hW) HLT.out (hW.mono (by simp))
      have HP := Lib.hid hpost
      clear hfind ho h hlt hk hpost
      go_enter Tryz.func92, Tryz.ntmps92
      go_wp2_with fail
      refine HFI.out.mono ?_
      rintro e w' ⟨rfl, rfl⟩
      go_wp2_with fail
      go_ret
      exact ⟨rfl, HP.out _ cgS⟩
    | some i =>
      rw [hk] at hfind
      have hi := h.1.names.lt _ (look_some hk)
      obtain ⟨W1, hW1⟩ : ∃ W1, W1 = w.alloc (.cells #[fptr ids i] 251) := ⟨_, rfl⟩
      have hc1 : Chg (fun _ => False) w W1 := by rw [hW1]; exact cgS
      have hbox : Blk W1 w.heap.size 251 #[fptr ids i] := by rw [hW1]; exact Blk.new w _ _
      have hne : w.heap.size ≠ d := by
        obtain ⟨_, y, hy⟩ := h
        have := hy.blk.lt
        omega
      have hch := disk_change d ids D M false 174 #[.pointer (some ⟨w.heap.size, 0, none⟩)] (syncA i) W1 (h.same hc1) (by simp [syncA, setF, trapped]; omega) (by omega) (enters _ _ (by kernel_rfl)) (fun W y' hy hW => act_sync d ids (trapped D) y' M W w.heap.size i (trapped_ok h.1) hi hy (hbox.chg hW hne))
      unfold fptr at hfind hW1
      simp only at hfind
      generalize ids.getD i 0 = q at hfind hW1
      have HFI := Lib.hid hfind
      have HCH := Lib.hid hch
      have HW1 := Lib.hid hW1
      have HC1 := Lib.hid hc1
      clear hfind ho h hlt hk hch hW1 hc1 hbox hne hi
      go_enter Tryz.func92, Tryz.ntmps92
      go_wp2_with fail
      refine HFI.out.mono ?_
      rintro e w' ⟨rfl, rfl⟩
      go_wp2_with fail
      rw [← HW1.out]
      refine HCH.out.mono ?_
      rintro e w2 ⟨rfl, hp⟩
      have HP := Lib.hid hp
      clear hp
      go_wp2_with fail
      go_ret
      exact ⟨rfl, HP.out.first HLT.out (HC1.out.mono (by simp))⟩

set_option maxRecDepth 100000 in
set_option maxHeartbeats 2000000 in
theorem disk_syncdir (d : Nat) (ids : List Nat) (D : DiskV) (M : Nat → Prop) (hq : D.queue.length ≤ 999999990) (w : World) (h : DiskAt w d ids D M) :
    Calls Tryz.prog 125 #[.pointer (some ⟨d, 0, none⟩)] w fun e w' => e = .returned (.int .i64 (syncDirD D).1) ∧ DPost w d ids M (syncDirD D).2 w' := by
  have hlt := h.lt
  have H := Lib.hid h
  have HLT := Lib.hid hlt
  unfold syncDirD
  obtain ⟨W1, hW1⟩ : ∃ W1, W1 = w.alloc (.cells #[.pointer (some ⟨d, 0, none⟩)] 36) := ⟨_, rfl⟩
  have hc1 : Chg (fun _ => False) w W1 := by rw [hW1]; exact cgS
  have hbox : Blk W1 w.heap.size 36 #[.pointer (some ⟨d, 0, none⟩)] := by rw [hW1]; exact Blk.new w _ _
  have hne : w.heap.size ≠ d := by
    obtain ⟨_, y, hy⟩ := h
    have := hy.blk.lt
    omega
  have h1 := h.same hc1
  have hmay : Calls Tryz.prog 203 #[.pointer (some ⟨d, 0, none⟩)] W1 fun e w' => e = .returned (.int .i64 (if D.off then 13 else 0)) ∧ W1 = w' := by
    obtain ⟨_, y, hy⟩ := h1
    have := hy.blk.cell 11
    exact disk_may d D.off W1 (by simpa using this)
  cases ho : D.off with
  | true =>
    rw [ho] at hmay
    have HFI := Lib.hid hmay
    have hpost : ∀ W, Chg (fun _ => False) w W → DPost w d ids M D W := fun W hW => DPost.same (H.out.same hW) HLT.out (hW.mono (by simp))
    have HP := Lib.hid hpost
    have HW1 := Lib.hid hW1
    have HC1 := Lib.hid hc1
    clear hmay ho h hlt hpost hW1 hc1 hbox hne h1
    go_enter Tryz.func125, Tryz.ntmps125
    go_wp2_with fail
    rw [← HW1.out]
    refine HFI.out.mono ?_
    rintro e w' ⟨rfl, rfl⟩
    go_wp2_with fail
    go_ret
    exact ⟨rfl, HP.out _ HC1.out⟩
  | false =>
    rw [ho] at hmay
    have hch := disk_change d ids D M false 204 #[.pointer (some ⟨w.heap.size, 0, none⟩)] syncDirA W1 h1 (by simp [syncDirA]) (by omega) (enters _ _ (by kernel_rfl)) (fun W y' hy hW => act_syncdir d w.heap.size ids (trapped D) y' M W (trapped_ok h.1) hy (hbox.chg hW hne))
    have b0 := hbox.cell 0
    simp at b0
    have HFI := Lib.hid hmay
    have HCH := Lib.hid hch
    have HW1 := Lib.hid hW1
    have HC1 := Lib.hid hc1
    clear hmay ho h hlt hch hW1 hc1 hbox hne h1
    go_enter Tryz.func125, Tryz.ntmps125
    go_wp2_with fail
    rw [← HW1.out]
    refine HFI.out.mono ?_
    rintro e w' ⟨rfl, rfl⟩
    go_wp2_with fail
    refine HCH.out.mono ?_
    rintro e w2 ⟨rfl, hp⟩
    have HP := Lib.hid hp
    clear hp
    go_wp2_with fail
    go_ret
    exact ⟨rfl, HP.out.first HLT.out (HC1.out.mono (by simp))⟩
end Go.Proofs.YtljabmkmngbhkaaGreatDoor
namespace Go.Proofs.YtljabmkmngbhkaaGreatDoor
open Go.RowKit
set_option linter.unusedVariables false
set_option linter.unusedSimpArgs false

def createD (D : DiskV) (n : ByteArray) : Int × DiskV := if D.off then (13, D) else if !goodN n then (2, D) else match look D.names n with | some _ => (11, D) | none => if D.names.length = 4096 then (12, D) else changeD D true (createA n)
theorem goodN_le {n : ByteArray} (h : goodN n = true) : n.size ≤ 64 := by
  unfold goodN at h
  simp at h
  exact h.2
theorem DiskAt.d_lt {w : World} {d : Nat} {ids : List Nat} {D : DiskV} {M : Nat → Prop} (h : DiskAt w d ids D M) : d < w.heap.size := by
  obtain ⟨_, y, hy⟩ := h
  exact hy.blk.lt

set_option maxRecDepth 100000 in
set_option maxHeartbeats 4000000 in
theorem disk_rename (d : Nat) (ids : List Nat) (D : DiskV) (M : Nat → Prop) (a b : ByteArray) (hn : a.size ≤ maxLen) (hb : b.size ≤ maxLen) (hq : D.queue.length ≤ 999999990) (w : World) (h : DiskAt w d ids D M) :
    Calls Tryz.prog 258 #[.pointer (some ⟨d, 0, none⟩), .string a, .string b] w fun e w' => e = .returned (.int .i64 (renameD D a b).1) ∧ DPost w d ids M (renameD D a b).2 w' := by
  have hlt := h.lt
  have hdl := h.d_lt
  have H := Lib.hid h
  have HLT := Lib.hid hlt
  unfold renameD
  obtain ⟨W1, hW1⟩ : ∃ W1, W1 = ((w.alloc (.cells #[.pointer (some ⟨d, 0, none⟩)] 36)).alloc (.cells #[.string a] 9)).alloc (.cells #[.string b] 9) := ⟨_, rfl⟩
  have hc1 : Chg (fun _ => False) w W1 := by rw [hW1]; exact cgS
  have hbd : Blk W1 w.heap.size 36 #[.pointer (some ⟨d, 0, none⟩)] := by rw [hW1]; exact ((Blk.new w _ _).alloc _).alloc _
  have hba : Blk W1 (w.heap.size + 1) 9 #[.string a] := by
    rw [hW1]
    have := (Blk.new (w.alloc (.cells #[.pointer (some ⟨d, 0, none⟩)] 36)) 9 #[.string a]).alloc (.cells #[.string b] 9)
    simpa using this
  have hbb : Blk W1 (w.heap.size + 1 + 1) 9 #[.string b] := by
    rw [hW1]
    have := Blk.new ((w.alloc (.cells #[.pointer (some ⟨d, 0, none⟩)] 36)).alloc (.cells #[.string a] 9)) 9 #[.string b]
    simpa using this
  have hs1 : W1.heap.size = w.heap.size + 3 := by rw [hW1]; simp
  have h1 := h.same hc1
  have hfind := disk_find d ids D M a hn W1 h1
  unfold findV at hfind
  have b0 := hbd.cell 0
  have b1 := hba.cell 0
  have b2 := hbb.cell 0
  simp at b0 b1 b2
  have HW1 := Lib.hid hW1
  have HC1 := Lib.hid hc1
  have HBD := Lib.hid hbd
  have HBA := Lib.hid hba
  have HBB := Lib.hid hbb
  have H1 := Lib.hid h1
  have HS1 := Lib.hid hs1
  have hpost : ∀ W, Chg (fun _ => False) w W → DPost w d ids M D W := fun W hW => DPost.same (H.out.same hW) HLT.out (hW.mono (by simp))
  have HP0 := Lib.hid hpost
  clear hW1 hc1 hbd hba hbb h1 hs1 hpost hlt
  cases ho : D.off with
  | true =>
    rw [ho] at hfind
    have HFI := Lib.hid hfind
    clear hfind ho h
    go_enter Tryz.func258, Tryz.ntmps258
    go_wp2_with fail
    rw [← HW1.out]
    refine HFI.out.mono ?_
    rintro e w' ⟨rfl, rfl⟩
    go_wp2_with fail
    go_ret
    exact ⟨rfl, HP0.out _ (HC1.out.then cgS)⟩
  | false =>
    rw [ho] at hfind
    cases hk : look D.names a with
    | none =>
      rw [hk] at hfind
      have HFI := Lib.hid hfind
      clear hfind ho h hk
      go_enter Tryz.func258, Tryz.ntmps258
      go_wp2_with fail
      rw [← HW1.out]
      refine HFI.out.mono ?_
      rintro e w' ⟨rfl, rfl⟩
      go_wp2_with fail
      go_ret
      exact ⟨rfl, HP0.out _ (HC1.out.then cgS)⟩
    | some i =>
      rw [hk] at hfind
      have hi := h.1.names.lt _ (look_some hk)
      have ha64 := h.1.names.sz _ (look_some hk)
      cases hg : goodN b with
      | false =>
        have hgood := fun W => disk_good b W
        rw [hg] at hgood
        have HG := Lib.hid hgood
        unfold fptr at hfind
        simp only at hfind
        generalize ids.getD i 0 = q at hfind
        have HFI := Lib.hid hfind
        have hl2 : w.heap.size + 1 + 1 < W1.heap.size := HBB.out.lt
        clear hfind ho h hk hi ha64 hg hgood
        go_enter Tryz.func258, Tryz.ntmps258
        go_wp2_with fail
        rw [← HW1.out]
        refine HFI.out.mono ?_
        rintro e w' ⟨rfl, rfl⟩
        go_wp2_with fail
        refine (HG.out _).mono ?_
        rintro e w' ⟨rfl, rfl⟩
        go_wp2_with fail
        go_ret
        exact ⟨rfl, HP0.out _ (HC1.out.then cgS)⟩
      | true =>
        have hgood := fun W => disk_good b W
        rw [hg] at hgood
        have HG := Lib.hid hgood
        have hb64 := goodN_le hg
        obtain ⟨W2, hW2⟩ : ∃ W2, W2 = W1.alloc (.cells #[fptr ids i] 251) := ⟨_, rfl⟩
        have hc2 : Chg (fun _ => False) W1 W2 := by rw [hW2]; exact cgS
        have hbf : Blk W2 W1.heap.size 251 #[fptr ids i] := by rw [hW2]; exact Blk.new W1 _ _
        have hs1 := HS1.out
        have hch := disk_change d ids D M true 311 #[.pointer (some ⟨w.heap.size + 1, 0, none⟩), .pointer (some ⟨w.heap.size + 1 + 1, 0, none⟩), .pointer (some ⟨w.heap.size, 0, none⟩), .pointer (some ⟨W1.heap.size, 0, none⟩)] (renameA a b i) W2 (H1.out.same hc2) (by unfold renameA rename1 trapped; split <;> simp <;> omega) (by omega) (enters _ _ (by kernel_rfl))
          (fun W y' hy hW => act_rename d w.heap.size (w.heap.size + 1) a ids (trapped D) y' M W b (w.heap.size + 1 + 1) W1.heap.size i (trapped_ok h.1) (by show D.queue.length ≤ _; omega) ha64 hb64 hi hy
            ((HBA.out.chg hc2 (by simp)).chg hW (by omega)) ((HBB.out.chg hc2 (by simp)).chg hW (by omega)) ((HBD.out.chg hc2 (by simp)).chg hW (by omega)) (hbf.chg hW (by omega)))
        have hl2 : w.heap.size + 1 + 1 < W1.heap.size := HBB.out.lt
        have hl0 : w.heap.size < W1.heap.size := HBD.out.lt
        have k0 := (hc2.cell (p := ⟨w.heap.size, 0, none⟩) (show w.heap.size < W1.heap.size by omega) (by simp)).trans b0
        have k2 := (hc2.cell (p := ⟨w.heap.size + 1 + 1, 0, none⟩) (show w.heap.size + 1 + 1 < W1.heap.size by omega) (by simp)).trans b2
        unfold fptr at hfind hW2
        simp only at hfind
        generalize ids.getD i 0 = q at hfind hW2
        have HFI := Lib.hid hfind
        have HCH := Lib.hid hch
        have HW2 := Lib.hid hW2
        have HC2 := Lib.hid hc2
        clear hfind ho h hk hi ha64 hg hgood hch hW2 hc2 hbf hb64 hs1
        go_enter Tryz.func258, Tryz.ntmps258
        go_wp2_with fail
        rw [← HW1.out]
        refine HFI.out.mono ?_
        rintro e w' ⟨rfl, rfl⟩
        go_wp2_with fail
        refine (HG.out _).mono ?_
        rintro e w' ⟨rfl, rfl⟩
        go_wp2_with fail
        rw [← HW2.out]
        refine HCH.out.mono ?_
        rintro e w3 ⟨rfl, hp⟩
        have HP := Lib.hid hp
        clear hp
        go_wp2_with fail
        go_ret
        exact ⟨rfl, HP.out.first HLT.out ((HC1.out.then HC2.out).mono (by simp))⟩

set_option maxRecDepth 100000 in
set_option maxHeartbeats 4000000 in
theorem disk_create (d : Nat) (ids : List Nat) (D : DiskV) (M : Nat → Prop) (n : ByteArray) (hn : n.size ≤ maxLen) (hq : D.queue.length ≤ 999999990) (hF : D.files.length ≤ 999999990) (w : World) (h : DiskAt w d ids D M) :
    Calls Tryz.prog 149 #[.pointer (some ⟨d, 0, none⟩), .string n] w fun e w' => e = .returned (.int .i64 (createD D n).1) ∧ DPost w d ids M (createD D n).2 w' := by
  have hlt := h.lt
  have hdl := h.d_lt
  have H := Lib.hid h
  have HLT := Lib.hid hlt
  unfold createD
  obtain ⟨W1, hW1⟩ : ∃ W1, W1 = (w.alloc (.cells #[.pointer (some ⟨d, 0, none⟩)] 36)).alloc (.cells #[.string n] 9) := ⟨_, rfl⟩
  have hc1 : Chg (fun _ => False) w W1 := by rw [hW1]; exact cgS
  have hbd : Blk W1 w.heap.size 36 #[.pointer (some ⟨d, 0, none⟩)] := by rw [hW1]; exact (Blk.new w _ _).alloc _
  have hba : Blk W1 (w.heap.size + 1) 9 #[.string n] := by
    rw [hW1]
    have := Blk.new (w.alloc (.cells #[.pointer (some ⟨d, 0, none⟩)] 36)) 9 #[.string n]
    simpa using this
  have h1 := h.same hc1
  have hfind := disk_find d ids D M n hn W1 h1
  unfold findV at hfind
  have b0 := hbd.cell 0
  have b1 := hba.cell 0
  simp at b0 b1
  have hgood := fun W => disk_good n W
  have HW1 := Lib.hid hW1
  have HC1 := Lib.hid hc1
  have HBD := Lib.hid hbd
  have HBA := Lib.hid hba
  have H1 := Lib.hid h1
  have hpost : ∀ W, Chg (fun _ => False) w W → DPost w d ids M D W := fun W hW => DPost.same (H.out.same hW) HLT.out (hW.mono (by simp))
  have HP0 := Lib.hid hpost
  clear hW1 hc1 hbd hba h1 hpost hlt
  cases ho : D.off with
  | true =>
    rw [ho] at hfind
    have HFI := Lib.hid hfind
    clear hfind ho h hgood
    go_enter Tryz.func149, Tryz.ntmps149
    go_wp2_with fail
    rw [← HW1.out]
    refine HFI.out.mono ?_
    rintro e w' ⟨rfl, rfl⟩
    go_wp2_with fail
    go_ret
    exact ⟨rfl, HP0.out _ HC1.out⟩
  | false =>
    rw [ho] at hfind
    cases hg : goodN n with
    | false =>
      rw [hg] at hgood
      have HG := Lib.hid hgood
      cases hk : look D.names n with
      | none =>
        rw [hk] at hfind
        have HFI := Lib.hid hfind
        clear hfind ho h hk hg hgood
        go_enter Tryz.func149, Tryz.ntmps149
        go_wp2_with fail
        rw [← HW1.out]
        refine HFI.out.mono ?_
        rintro e w' ⟨rfl, rfl⟩
        go_wp2_with fail
        refine (HG.out _).mono ?_
        rintro e w' ⟨rfl, rfl⟩
        go_wp2_with fail
        go_ret
        exact ⟨rfl, HP0.out _ HC1.out⟩
      | some i =>
        rw [hk] at hfind
        unfold fptr at hfind
        simp only at hfind
        generalize ids.getD i 0 = q at hfind
        have HFI := Lib.hid hfind
        clear hfind ho h hk hg hgood
        go_enter Tryz.func149, Tryz.ntmps149
        go_wp2_with fail
        rw [← HW1.out]
        refine HFI.out.mono ?_
        rintro e w' ⟨rfl, rfl⟩
        go_wp2_with fail
        refine (HG.out _).mono ?_
        rintro e w' ⟨rfl, rfl⟩
        go_wp2_with fail
        go_ret
        exact ⟨rfl, HP0.out _ HC1.out⟩
    | true =>
      rw [hg] at hgood
      have HG := Lib.hid hgood
      have hn64 := goodN_le hg
      cases hk : look D.names n with
      | some i =>
        rw [hk] at hfind
        unfold fptr at hfind
        simp only at hfind
        generalize ids.getD i 0 = q at hfind
        have HFI := Lib.hid hfind
        clear hfind ho h hk hg hgood
        go_enter Tryz.func149, Tryz.ntmps149
        go_wp2_with fail
        rw [← HW1.out]
        refine HFI.out.mono ?_
        rintro e w' ⟨rfl, rfl⟩
        go_wp2_with fail
        refine (HG.out _).mono ?_
        rintro e w' ⟨rfl, rfl⟩
        go_wp2_with fail
        go_ret
        exact ⟨rfl, HP0.out _ HC1.out⟩
      | none =>
        rw [hk] at hfind
        have hnlen : ∃ m : Nat, m = D.names.length ∧ ∃ nb, W1.cell? ⟨d, 2, none⟩ = some (.map (some nb)) ∧ ∀ ty, (Builtin.len_ #[87] ty #[.map (some nb)]).run Tryz.prog W1 = .ok (.int .i64 m) W1 := by
          obtain ⟨_, y, hy⟩ := H1.out
          obtain ⟨m, f, hm, ht, hmn⟩ := hy.names
          refine ⟨m, hmn, y.nm, ?_, fun ty => hm.len Tryz.underlying87 ty⟩
          have := hy.blk.cell 2
          simpa using this
        obtain ⟨m, hm, nb, hcn, hlen⟩ := hnlen
        rw [← hm]
        have HFI := Lib.hid hfind
        by_cases h4 : m = 4096
        · rw [if_pos h4]
          have h4' : ((m : Int) == 4096) = true := by rw [beq_iff_eq]; omega
          clear hfind ho h hk hg hgood hm h4
          go_enter Tryz.func149, Tryz.ntmps149
          go_wp2_with fail
          rw [← HW1.out]
          refine HFI.out.mono ?_
          rintro e w' ⟨rfl, rfl⟩
          go_wp2_with fail
          refine (HG.out _).mono ?_
          rintro e w' ⟨rfl, rfl⟩
          go_wp2_with fail
          go_ret
          exact ⟨rfl, HP0.out _ HC1.out⟩
        · rw [if_neg h4]
          have h4' : ((m : Int) == 4096) = false := by rw [beq_eq_false_iff_ne]; omega
          have hs1 : W1.heap.size = w.heap.size + 2 := by rw [HW1.out]; simp
          have hch := disk_change d ids D M true 247 #[.pointer (some ⟨w.heap.size, 0, none⟩), .pointer (some ⟨w.heap.size + 1, 0, none⟩)] (createA n) W1 H1.out (by simp [createA, rename1, trapped]; omega) (by omega) (enters _ _ (by kernel_rfl))
            (fun W y' hy hW => act_create d w.heap.size (w.heap.size + 1) n ids (trapped D) y' M W (trapped_ok h.1) (by show D.queue.length ≤ _; omega) (by show D.files.length ≤ _; omega) hn64 hy (HBD.out.chg hW (by omega)) (HBA.out.chg hW (by omega)))
          have HCH := Lib.hid hch
          clear hfind ho h hk hg hgood hm h4 hch hs1
          go_enter Tryz.func149, Tryz.ntmps149
          go_wp2_with fail
          rw [← HW1.out]
          refine HFI.out.mono ?_
          rintro e w' ⟨rfl, rfl⟩
          go_wp2_with fail
          refine (HG.out _).mono ?_
          rintro e w' ⟨rfl, rfl⟩
          go_wp2_with fail
          refine HCH.out.mono ?_
          rintro e w3 ⟨rfl, hp⟩
          have HP := Lib.hid hp
          clear hp
          go_wp2_with fail
          go_ret
          exact ⟨rfl, HP.out.first HLT.out (HC1.out.mono (by simp))⟩
end Go.Proofs.YtljabmkmngbhkaaGreatDoor
