/-
  The walk of CacheLast.
-/
import Derived.Test.YtafdgncjfiiekaaCacheL
import Derived.Test.YtafdgncjfiiekaaRec
namespace Go.Proofs.Ytafdgncjfiiekaa
open Go.RowKit
set_option linter.unusedVariables false
set_option linter.unusedSimpArgs false

/-- Behind a Put: the block is kept (it was there, or it has just come, last), or it was refused. -/
theorem put_then (L : List Node) (B : Bud) (f b : Int) (s : ByteArray) (i : Nat) :
    (((putM L B f b s i).1 = 11 ∨ (putM L B f b s i).1 = 0) ∧ ∃ A x M, (putM L B f b s i).2.1 = A ++ x :: M ∧ x.file = f ∧ x.blk = b ∧ ((putM L B f b s i).1 = 0 → x.data = s)) ∨
    ((putM L B f b s i).1 = 14 ∧ ∀ x ∈ (putM L B f b s i).2.1, ¬ (x.file = f ∧ x.blk = b)) := by
  unfold putM
  by_cases hk : hasKey L f b = true
  · rw [if_pos hk]
    obtain ⟨x, hx, e1, e2⟩ := hasKey_true hk
    obtain ⟨A, M, e⟩ := List.append_of_mem hx
    exact .inl ⟨.inl rfl, A, x, M, e, e1, e2, fun h => by simp at h⟩
  · rw [if_neg hk]
    by_cases hs : (shrink L B (64 + (s.size : Int))).1 = true
    · rw [if_pos hs]
      exact .inl ⟨.inr rfl, _, _, [], rfl, rfl, rfl, fun _ => rfl⟩
    · rw [if_neg hs]
      exact .inr ⟨rfl, hasKey_false (by simpa using hk)⟩

theorem put_ids (L : List Node) (B : Bud) (f b : Int) (s : ByteArray) (i : Nat) : ∀ x ∈ (putM L B f b s i).2.1, x ∈ L ∨ x.id = i := by
  intro x hx
  unfold putM at hx
  split at hx
  · exact .inl hx
  · split at hx
    · rcases List.mem_append.1 hx with h | h
      · exact .inl ((shrink_sub _ _ _).subset h)
      · simp only [List.mem_singleton] at h
        subst h
        exact .inr rfl
    · exact .inl hx

def actRow (D F K N : Nat → Int) (S : Nat → ByteArray) (i j : Nat) : Value :=
  match j with | 0 => .int .i64 (D i) | 1 => .int .i64 (F i) | 2 => .int .i64 (K i) | 3 => .string (S i) | _ => .int .i64 (N i)

set_option maxRecDepth 100000 in
set_option maxHeartbeats 2000000 in
theorem cache_lasts (l : Int) (A : Option Addr) (n c : Nat) (D F K N : Nat → Int) (S : Nat → ByteArray) (hF : ∀ i, In64 (F i)) (hK : ∀ i, In64 (K i)) (hS : ∀ i, (S i).size ≤ 140737488355328) (w : World) (hn : n ≤ 9223372036854775807) (hnc : n ≤ c)
    (hs : Rec w w.heap.size 5 A n (actRow D F K N S)) :
    Calls Try.prog 8 #[.int .i64 l, .slice A n c] w fun e w' => e = .returned (.bool true) ∧ Chg (fun _ => False) w w' := by
  have HR := Lib.hid hs
  have HF := Lib.hid hF
  have HK := Lib.hid hK
  have HS := Lib.hid hS
  clear hs hF hK hS
  go_enter Try.func8, Try.ntmps8
  go_wp2_with fail
  refine (bud_new l w).mono ?_
  rintro e w1 ⟨rfl, hb1, hs1, hc1⟩
  have HS1 := Lib.hid hs1
  clear hs1
  go_wp2_with fail
  refine (cache_new w.heap.size (Bud.start l) rfl w1 hb1).mono ?_
  rintro e w2 ⟨rfl, h2, hc2, hs2⟩
  rw [HS1.out] at h2 ⊢
  have hcw2 := hc1.then hc2
  have HS2 := Lib.hid hs2
  clear hs2 hc1 hc2 hb1
  go_wp2_with fail
  all_goals (try simp only [show max (100 : Int) 0 = 100 from rfl])
  all_goals obtain ⟨q, hq1, hq2, hq3⟩ : ∃ q : Nat, q ≤ n ∧ q ≤ 100 ∧ (q = n ∨ q = 100) := ⟨min n 100, by omega, by omega, by omega⟩
  all_goals
    have hw2 := hcw2.size
    go_loopw [24] (fun i wr => ∃ k : Nat, k ≤ q ∧ i = .int .i64 k ∧ ∃ L B, CacheAt wr (w.heap.size + 1 + 1) w.heap.size (w.heap.size + 1) L B ∧ (∀ x ∈ L, w.heap.size ≤ x.id) ∧ Chg (fun _ => False) w wr) (fun i _ => q - (intOf i).toNat)
    case atStart => exact ⟨0, by omega, rfl, _, _, h2, by simp, hcw2⟩
    case round =>
      obtain ⟨k, hk, rfl, L, B, hC, hL, hcc⟩ := hrel
      clear h2 hcw2
      by_cases hlt : k < q
      · obtain ⟨b, off, rfl, hbB, hcell⟩ := HR.out (by omega)
        have x0 := (hcc.cell (p := ⟨b, _, none⟩) hbB (by simp)).trans (hcell k (by omega) 0 (by omega))
        have x1 := (hcc.cell (p := ⟨b, _, none⟩) hbB (by simp)).trans (hcell k (by omega) 1 (by omega))
        have x2 := (hcc.cell (p := ⟨b, _, none⟩) hbB (by simp)).trans (hcell k (by omega) 2 (by omega))
        have x3 := (hcc.cell (p := ⟨b, _, none⟩) hbB (by simp)).trans (hcell k (by omega) 3 (by omega))
        have x4 := (hcc.cell (p := ⟨b, _, none⟩) hbB (by simp)).trans (hcell k (by omega) 4 (by omega))
        simp only [Nat.add_zero, actRow] at x0 x1 x2 x3 x4
        have hk0 : (0 : Int) ≤ (k : Int) := by omega
        have hk1 : (k : Int) < (n : Int) := by omega
        have hk2 : (k : Int) < 100 := by omega
        have HQ := Lib.hid hq3
        have HC := Lib.hid hC
        have HL := Lib.hid hL
        have HCC := Lib.hid hcc
        clear hcell HR hC hL hcc hq3
        go_wp2_with fail
        clear x0 x1 x2 x3 x4
        have hkey : Blk ((wr.alloc (.cells #[.int .i64 (D k), .int .i64 (F k), .int .i64 (K k), .string (S k), .int .i64 (N k)] 46)).alloc (.cells #[.int .i64 (F k), .int .i64 (K k)] 48)) (wr.heap.size + 1) 48 #[.int .i64 (F k), .int .i64 (K k)] := by
          have := Blk.new (wr.alloc (.cells #[.int .i64 (D k), .int .i64 (F k), .int .i64 (K k), .string (S k), .int .i64 (N k)] 46)) 48 #[.int .i64 (F k), .int .i64 (K k)]
          simpa using this
        have hact : Blk ((wr.alloc (.cells #[.int .i64 (D k), .int .i64 (F k), .int .i64 (K k), .string (S k), .int .i64 (N k)] 46)).alloc (.cells #[.int .i64 (F k), .int .i64 (K k)] 48)) wr.heap.size 46 #[.int .i64 (D k), .int .i64 (F k), .int .i64 (K k), .string (S k), .int .i64 (N k)] :=
          (Blk.new wr _ _).chg (S := fun _ => False) (by ((repeat (first | exact Chg.refl _ _ | assumption | refine Chg.drewN ?_ _ | refine Chg.drew ?_ | refine Chg.alloc ?_ _ | refine Chg.setCell ?_ (by simp) _)))) (by simp)
        have hc4 : Chg (fun _ => False) wr ((wr.alloc (.cells #[.int .i64 (D k), .int .i64 (F k), .int .i64 (K k), .string (S k), .int .i64 (N k)] 46)).alloc (.cells #[.int .i64 (F k), .int .i64 (K k)] 48)) := by ((repeat (first | exact Chg.refl _ _ | assumption | refine Chg.drewN ?_ _ | refine Chg.drew ?_ | refine Chg.alloc ?_ _ | refine Chg.setCell ?_ (by simp) _)))
        have hs4 : ((wr.alloc (.cells #[.int .i64 (D k), .int .i64 (F k), .int .i64 (K k), .string (S k), .int .i64 (N k)] 46)).alloc (.cells #[.int .i64 (F k), .int .i64 (K k)] 48)).heap.size = wr.heap.size + 2 := by simp
        have hw4 := HCC.out.size
        refine (cache_put _ _ _ L B (F k) (K k) (HF.out k) (HK.out k) (S k) (HS.out k) _ (HC.out.same hc4)).mono ?_
        rintro e w5 ⟨i, hi, he, h5, hc5⟩
        rw [hs4] at hi
        have hft := fun y (hy : FootC (w.heap.size + 1 + 1) w.heap.size (w.heap.size + 1) L y) => HC.out.foot_lt hy
        have hkey5 := hkey.chg hc5 (fun hf => by have := hft _ hf; omega)
        have hact5 := hact.chg hc5 (fun hf => by have := hft _ hf; omega)
        have hcw5 := (HCC.out.then hc4).ownC hc5 (fun y hy => foot_ge (by omega) (Nat.le_refl _) (by omega) HL.out hy)
        have hL5 : ∀ x ∈ (putM L B (F k) (K k) (S k) i).2.1, w.heap.size ≤ x.id := fun x hx => by
          rcases put_ids _ _ _ _ _ _ x hx with h | h
          · exact HL.out x h
          · omega
        have hp := put_then L B (F k) (K k) (S k) i
        have hf5 : ∀ y, FootC (w.heap.size + 1 + 1) w.heap.size (w.heap.size + 1) (putM L B (F k) (K k) (S k) i).2.1 y → y ≠ wr.heap.size ∧ y ≠ wr.heap.size + 1 := fun y hy => by
          rcases hy with hy | hy | hy | ⟨x, hx, hy⟩
          · have := hft _ (.inl hy); omega
          · have := hft _ (.inr (.inl hy)); omega
          · have := hft _ (.inr (.inr (.inl hy))); omega
          · rcases put_ids _ _ _ _ _ _ x hx with h | h
            · have := hft y (.inr (.inr (.inr ⟨x, h, hy⟩))); omega
            · omega
        generalize putM L B (F k) (K k) (S k) i = P at he h5 hL5 hp hf5
        obtain ⟨e0, L5, B5⟩ := P
        have k5 := hkey5.cell 0
        have k6 := hkey5.cell 1
        have s5 := hkey5.lt
        have hs5 := hc5.size
        rw [hs4] at hs5
        dsimp only at h5 hL5 hp he hf5
        simp at k5 k6
        clear hkey hact hc4 hc5 hft HC HL HCC hs4
        rcases hp with ⟨h110, A5, x5, M5, hLe, hxf, hxb, hxd⟩ | ⟨he14, hmiss⟩
        · subst hLe he
          have hget := cache_get_hit (w.heap.size + 1 + 1) w.heap.size (w.heap.size + 1) A5 M5 x5 B5 w5 h5
          rw [hxf, hxb] at hget
          have HG := Lib.hid hget
          have H5 := Lib.hid h5
          have HF5 := Lib.hid hf5
          have HL5 := Lib.hid hL5
          have HCW5 := Lib.hid hcw5
          have HK5 := Lib.hid hkey5
          have HA5 := Lib.hid hact5
          have HX := Lib.hid (And.intro hxf hxb)
          have HXD := Lib.hid hxd
          clear hget h5 hL5 hcw5 hkey5 hact5 hxf hxb hxd hf5
          have HO := Lib.hid h110
          clear h110
          go_wp2_with fail
          refine HG.out.mono ?_
          rintro e w6 ⟨rfl, h6, hc6⟩
          have hcw6 := HCW5.out.ownC hc6 (fun y hy => foot_ge (by omega) (Nat.le_refl _) (by omega) HL5.out hy)
          have hk6 := HK5.out.chg hc6 (fun hf => (HF5.out _ hf).2 rfl)
          have ha6 := HA5.out.chg hc6 (fun hf => (HF5.out _ hf).1 rfl)
          have y3 := ha6.cell 3
          simp at y3
          have hL6 : ∀ x ∈ A5 ++ M5 ++ [x5], w.heap.size ≤ x.id := fun x hx => HL5.out x (by simp at hx ⊢; rcases hx with h | h | h <;> simp [h])
          have H6 := Lib.hid h6
          have HL6 := Lib.hid hL6
          have HCW6 := Lib.hid hcw6
          have HK6 := Lib.hid hk6
          have HA6 := Lib.hid ha6
          clear k5 k6 HG H5 HF5 HL5 HCW5 HK5 HA5 hc6 h6 hL6 hcw6 hk6 ha6
          rcases HO.out with rfl | rfl
          · clear HO HXD
            go_wp2_with fail
            refine (cache_kept _ _ _ _ _ w6 H6.out).mono ?_
            rintro e w7 ⟨v, rfl, hown, hc7⟩
            obtain ⟨a, cap, rfl, hn7, hread⟩ := keys_form hown
            obtain ⟨bk, rfl, hbk, hbk7, _, hcell⟩ := hread (by simp only [List.length_append, List.length_cons]; omega)
            have z0 := hcell 0 (.int .i64 (F k)) (by simp [keysFlat, HX.out.1])
            have z1 := hcell 1 (.int .i64 (K k)) (by simp [keysFlat, HX.out.2])
            have c0 := (HK6.out.chg hc7 (by simp)).cell 0
            have c1 := (HK6.out.chg hc7 (by simp)).cell 1
            simp at c0 c1
            have hlen : 0 < (A5 ++ M5 ++ [x5]).length := by simp only [List.length_append, List.length_cons]; omega
            generalize (A5 ++ M5 ++ [x5]).length = nn at hlen hn7 ⊢
            have HC7 := Lib.hid hc7
            clear hread hown hcell y3 hc7
            obtain ⟨r, rfl⟩ : ∃ r, nn = r + 1 := ⟨nn - 1, by omega⟩
            go_wp2_with fail
            go_region_held3 (fun w' => w'.cell? ⟨bk, 0, none⟩ = some (.int .i64 (F k)) ∧ w'.cell? ⟨bk, 1, none⟩ = some (.int .i64 (K k)) ∧ w'.cell? ⟨wr.heap.size + 1, 0, none⟩ = some (.int .i64 (F k)) ∧ w'.cell? ⟨wr.heap.size + 1, 1, none⟩ = some (.int .i64 (K k))) (first | (go_keep; done)) (fail)
            have hcw8 : Chg (fun _ => False) w w7.drew := (HCW6.out.then HC7.out).drew
            have h8 := (H6.out.same HC7.out).same (w' := w7.drew) (by ((repeat (first | exact Chg.refl _ _ | assumption | refine Chg.drewN ?_ _ | refine Chg.drew ?_ | refine Chg.alloc ?_ _ | refine Chg.setCell ?_ (by simp) _))))
            have HL8 := HL6.out
            go_wp2_with fail
            refine ⟨⟨k + 1, by omega, by go_num, _, _, h8, HL8, hcw8⟩, ?_⟩
            simp [intOf]; omega
          · have hxd := HXD.out rfl
            clear HO HXD
            rw [hxd]
            go_wp2_with fail
            refine (cache_kept _ _ _ _ _ w6 H6.out).mono ?_
            rintro e w7 ⟨v, rfl, hown, hc7⟩
            obtain ⟨a, cap, rfl, hn7, hread⟩ := keys_form hown
            obtain ⟨bk, rfl, hbk, hbk7, _, hcell⟩ := hread (by simp only [List.length_append, List.length_cons]; omega)
            have z0 := hcell 0 (.int .i64 (F k)) (by simp [keysFlat, HX.out.1])
            have z1 := hcell 1 (.int .i64 (K k)) (by simp [keysFlat, HX.out.2])
            have c0 := (HK6.out.chg hc7 (by simp)).cell 0
            have c1 := (HK6.out.chg hc7 (by simp)).cell 1
            simp at c0 c1
            have hlen : 0 < (A5 ++ M5 ++ [x5]).length := by simp only [List.length_append, List.length_cons]; omega
            generalize (A5 ++ M5 ++ [x5]).length = nn at hlen hn7 ⊢
            have HC7 := Lib.hid hc7
            clear hread hown hcell y3 hc7
            obtain ⟨r, rfl⟩ : ∃ r, nn = r + 1 := ⟨nn - 1, by omega⟩
            go_wp2_with fail
            go_region_held3 (fun w' => w'.cell? ⟨bk, 0, none⟩ = some (.int .i64 (F k)) ∧ w'.cell? ⟨bk, 1, none⟩ = some (.int .i64 (K k)) ∧ w'.cell? ⟨wr.heap.size + 1, 0, none⟩ = some (.int .i64 (F k)) ∧ w'.cell? ⟨wr.heap.size + 1, 1, none⟩ = some (.int .i64 (K k))) (first | (go_keep; done)) (fail)
            have hcw8 : Chg (fun _ => False) w w7.drew := (HCW6.out.then HC7.out).drew
            have h8 := (H6.out.same HC7.out).same (w' := w7.drew) (by ((repeat (first | exact Chg.refl _ _ | assumption | refine Chg.drewN ?_ _ | refine Chg.drew ?_ | refine Chg.alloc ?_ _ | refine Chg.setCell ?_ (by simp) _))))
            have HL8 := HL6.out
            go_wp2_with fail
            refine ⟨⟨k + 1, by omega, by go_num, _, _, h8, HL8, hcw8⟩, ?_⟩
            simp [intOf]; omega
        · subst he14 he
          have H5 := Lib.hid h5
          have HM := Lib.hid hmiss
          have HL5 := Lib.hid hL5
          have HCW5 := Lib.hid hcw5
          have HK5 := Lib.hid hkey5
          clear h5 hmiss hL5 hcw5 hkey5 hact5 hf5
          go_wp2_with fail
          refine (cache_get_miss _ _ _ L5 B5 (F k) (K k) (HF.out k) (HK.out k) HM.out w5 H5.out).mono ?_
          rintro e w6 ⟨rfl, hc6⟩
          have h6 := H5.out.same hc6
          have hk6 := HK5.out.chg hc6 (by simp)
          have hcw6 := HCW5.out.then hc6
          have H6 := Lib.hid h6
          have HCW6 := Lib.hid hcw6
          have HK6 := Lib.hid hk6
          clear k5 k6 H5 HCW5 HK5 hc6 h6 hcw6 hk6
          go_wp2_with fail
          refine (cache_kept _ _ _ _ _ w6 H6.out).mono ?_
          rintro e w7 ⟨v, rfl, hown, hc7⟩
          obtain ⟨a, cap, rfl, hn7, hread⟩ := keys_form hown
          have c0 := (HK6.out.chg hc7 (by simp)).cell 0
          have c1 := (HK6.out.chg hc7 (by simp)).cell 1
          simp at c0 c1
          have HC7 := Lib.hid hc7
          clear hread hown hc7
          go_wp2_with fail
          go_quiet (fail)
          have hcw8 : ∀ n, Chg (fun _ => False) w (w7.drewN n) := fun n => (HCW6.out.then HC7.out).drewN n
          have h8 : ∀ n, CacheAt (w7.drewN n) (w.heap.size + 1 + 1) w.heap.size (w.heap.size + 1) L5 B5 := fun n => (H6.out.same HC7.out).same ((Chg.refl _ w7).drewN n)
          have HL8 := HL5.out
          have HH8 := Lib.hid h8
          have HCC8 := Lib.hid hcw8
          clear h8 hcw8
          go_wp2_with fail
          refine ⟨⟨k + 1, by omega, by go_num, _, _, HH8.out _, HL8, HCC8.out _⟩, ?_⟩
          simp [intOf]; omega
      · have HC := Lib.hid hcc
        clear hcc hC HR
        have hge : ¬ ((k : Int) < (q : Int)) := by omega
        first
          | (have hqe : q = n := by omega
             have hge2 : ¬ ((k : Int) < (n : Int)) := by omega
             clear hq3 hqe
             go_wp2_with fail
             refine (cache_wakes _).mono ?_)
          | (have hge2 : ¬ ((k : Int) < 100) := by omega
             clear hq3
             go_wp2_with fail
             refine (cache_wakes _).mono ?_)
        rintro e w' ⟨rfl, hc⟩
        go_wp2_with fail
        go_ret
        exact ⟨rfl, HC.out.then hc⟩
end Go.Proofs.Ytafdgncjfiiekaa
