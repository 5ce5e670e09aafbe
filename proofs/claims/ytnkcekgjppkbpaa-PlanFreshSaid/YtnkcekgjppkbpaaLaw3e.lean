/- Package knelllaw03, walked: cells, the list of all places: the numbers from 0 on, in order. -/
import Derived.Test.YtnkcekgjppkbpaaLaw3d
import Derived.Test.YtnkcekgjppkbpaaLaw3c
namespace Go.Proofs.Ytnkcekgjppkbpaa.Law3
open Go.RowKit Go.Proofs.Ytnkcekgjppkbpaa Go.Proofs.Ytnkcekgjppkbpaa.PlanN Go.Proofs.Ytnkcekgjppkbpaa.Plan
set_option linter.unusedVariables false
set_option linter.unusedSimpArgs false

set_option maxHeartbeats 400000 in
theorem PClock_c (p : Nat) (w : World) : Calls Try.prog 60 #[.pointer (some ⟨p, 0, none⟩)] w fun e w' => e = .returned (.int .i64 0) ∧ w = w' := by
  go_enter Try.func60, Try.ntmps60
  go_wp2
  go_ret
  exact ⟨rfl, rfl⟩

set_option maxHeartbeats 400000 in
theorem PNodes_c (p : Nat) (w : World) : Calls Try.prog 58 #[.pointer (some ⟨p, 0, none⟩)] w fun e w' => e = .returned (.int .i64 1) ∧ w = w' := by
  go_enter Try.func58, Try.ntmps58
  go_wp2
  go_ret
  exact ⟨rfl, rfl⟩

set_option maxHeartbeats 400000 in
theorem PTickets_c (p : Nat) (w : World) : Calls Try.prog 59 #[.pointer (some ⟨p, 0, none⟩)] w fun e w' => e = .returned (.int .i64 2) ∧ w = w' := by
  go_enter Try.func59, Try.ntmps59
  go_wp2
  go_ret
  exact ⟨rfl, rfl⟩

theorem base_le {B : Nat} {wr : World} (h : B < wr.heap.size) (k : Nat) (o : Obj) : B + 1 ≤ ((wr.drewN k).alloc o).heap.size := by
  rw [World.size_alloc]
  show B + 1 ≤ wr.heap.size + 1
  omega
theorem rg3 {n n1 n2 : Nat} (h1 : n1 = n + 1) (h2 : n2 = n + 2) : rg n ++ [.int .i64 (n : Int), .int .i64 (n1 : Int), .int .i64 (n2 : Int)] = rg (n + 3) := by
  subst h1 h2
  rw [← rg_succ (n + 2), ← rg_succ (n + 1), ← rg_succ n]
  simp
theorem rg4 {n n1 n2 n3 : Nat} (h1 : n1 = n + 1) (h2 : n2 = n + 2) (h3 : n3 = n + 3) : rg n ++ [.int .i64 (n : Int), .int .i64 (n1 : Int), .int .i64 (n2 : Int), .int .i64 (n3 : Int)] = rg (n + 4) := by
  subst h1 h2 h3
  rw [← rg_succ (n + 3), ← rg_succ (n + 2), ← rg_succ (n + 1), ← rg_succ n]
  simp
theorem CI.start {w A : World} {p : Nat} {xs : List Int} (hA : A.heap[w.heap.size]? = some (.cells (row xs) 23 (0, 0))) (hs : A.heap.size = w.heap.size + 1) (hp : IsPlan w p xs) (hm : Made w A) :
    CI w w.heap.size p xs (A.alloc (.cells #[.int .i64 0, .int .i64 1, .int .i64 2] 3)) (.slice (some ⟨w.heap.size + 1, 0, none⟩) 3 3) 3 := by
  have hl := (Array.getElem?_eq_some_iff.1 hp).1
  refine ⟨⟨rfl, .inr ⟨w.heap.size + 1, 3, #[.int .i64 0, .int .i64 1, .int .i64 2], rfl, Nat.le_refl _, by rw [← hs]; exact heap_alloc_new _ _, Nat.le_refl _, by decide, rfl, rfl⟩⟩, ?_, isplan_alloc (isplan_later hp hm) _, hm.alloc hm.size _, hl, Nat.le_refl _, by rw [World.size_alloc]; omega⟩
  rw [heap_alloc_old _ _ (by omega)]
  exact hA
theorem CI.later {w : World} {B p : Nat} {xs : List Int} {wr : World} {v : Value} {n : Nat} (h : CI w B p xs wr v n) {w2 : World} (m : Made wr w2) : CI w B p xs w2 v n := by
  refine ⟨h.own.kept (row := none) ⟨m.os, m.tape, m.output, m.size, fun i hi _ => m.block i hi⟩ (by cases hv : v.ownBlock with | none => exact .inl rfl | some g => exact .inr (by simp)), (m.block _ (Array.getElem?_eq_some_iff.1 h.box).1).trans h.box, isplan_later h.plan m, Made.trans h.md m, ?_⟩
  have := m.size
  have := h.lt
  omega
theorem bd1 {W L S N T C SH s0 n0 : Nat} (h : s0 < W) (hs : 3 + L * (1 + S) = SH) (hn : n0 = 3 + s0 * SH) (hb : 3 + W * SH + 4 * N + 3 * T + C ≤ 75000) : n0 + SH ≤ 75000 ∧ 3 ≤ SH := by
  have h1 : (s0 + 1) * SH ≤ W * SH := Nat.mul_le_mul_right _ h
  rw [Nat.succ_mul] at h1
  exact ⟨by omega, by rw [← hs]; omega⟩
theorem bd2 {W L S N T C SH s0 k0 nk : Nat} (h : s0 < W) (hk : k0 < L) (hs : 3 + L * (1 + S) = SH) (hn : nk = 3 + s0 * SH + (3 + k0 * (1 + S))) (hb : 3 + W * SH + 4 * N + 3 * T + C ≤ 75000) : nk + (1 + S) ≤ 75000 := by
  have h1 : (s0 + 1) * SH ≤ W * SH := Nat.mul_le_mul_right _ h
  rw [Nat.succ_mul] at h1
  have h2 : (k0 + 1) * (1 + S) ≤ L * (1 + S) := Nat.mul_le_mul_right _ hk
  rw [Nat.succ_mul] at h2
  omega
theorem bd3 {W L S N T C SH s0 k0 i0 n : Nat} (h : s0 < W) (hk : k0 < L) (hi : i0 < S) (hs : 3 + L * (1 + S) = SH) (hn : n = 3 + s0 * SH + (3 + k0 * (1 + S)) + (1 + i0 * 1)) (hb : 3 + W * SH + 4 * N + 3 * T + C ≤ 75000) : n + 1 ≤ 75000 := by
  have := bd2 h hk hs rfl hb
  omega
theorem CI.num {w : World} {B p : Nat} {xs : List Int} {wr : World} {v : Value} {n : Nat} (h : CI w B p xs wr v n) (hl : xs.length = 13) (j : Nat) (hj : j < 13) : wr.cell? ⟨B, j, none⟩ = some (.int .i64 (xs.getD j 0)) := by
  rw [cell_of_row _ _ _ _ _ _ h.box]
  exact nums_at xs hl j hj

set_option maxRecDepth 100000 in
set_option maxHeartbeats 8000000 in
theorem cells_c {xs : List Int} {W L S N T C : Nat} (hn : Nats xs W L S N T C) (p : Nat) (w : World) (hp : IsPlan w p xs) :
    Calls Try.prog 54 #[.pointer (some ⟨p, 0, none⟩), .agg (row xs)] w fun e w' => ∃ v, e = .returned v ∧ w'.ownsRow (w.heap.size + 1) 3 1 v (3 + W * (3 + L * (1 + S)) + 4 * N + 3 * T + C) (rg (3 + W * (3 + L * (1 + S)) + 4 * N + 3 * T + C)) ∧ Made w w' := by
  obtain ⟨iu, hi, hz0⟩ := Option.map_eq_some_iff.1 int_info
  simp only [Prod.mk.injEq] at hz0
  obtain ⟨hz0, hz1, hz2⟩ := hz0
  have HI := Lib.hid (And.intro hi (And.intro hz0 (And.intro hz1 hz2)))
  clear hi hz0 hz1 hz2
  have hsz := (rng hn.rgt).sz
  rw [hn.size] at hsz
  have hNB : 3 + W * (3 + L * (1 + S)) + 4 * N + 3 * T + C ≤ 75000 := by omega
  have bW : W ≤ 64 := by have := (rng hn.rgt).w.2; rw [hn.w] at this; omega
  have bL : L ≤ 8 := by have := (rng hn.rgt).l.2; rw [hn.l] at this; omega
  have bS : S ≤ 64 := by have := (rng hn.rgt).s.2; rw [hn.s] at this; omega
  have bN : N ≤ 4096 := by have := (rng hn.rgt).n.2; rw [hn.n] at this; omega
  have bT : T ≤ 8192 := by have := (rng hn.rgt).t.2; rw [hn.t] at this; omega
  have bC : C ≤ 256 := by have := (rng hn.rgt).c.2; rw [hn.c] at this; omega
  have hCI0 : CI w w.heap.size p xs ((w.alloc (.cells (row xs) 23)).alloc (.cells #[.int .i64 0, .int .i64 1, .int .i64 2] 3)) (.slice (some ⟨w.heap.size + 1, 0, none⟩) 3 3) 3 :=
    CI.start (heap_alloc_new _ _) (World.size_alloc _ _) hp ((Made.refl w).alloc (Nat.le_refl _) _)
  have HSL : Hid (∀ wx : World, Calls Try.prog 37 #[.agg (row xs)] wx fun e w' => e = .returned (.int .i64 (S : Int)) ∧ Made wx w') := fun wx => by
    have := Slots_c xs hn.len hn.rgt wx
    rw [hn.s] at this
    exact this
  have HC0 := Lib.hid hCI0
  clear hCI0 hsz
  have HZ := Lib.hid (show (Try.prog.info? 23).map (·.size) = some 13 by kernel_rfl)
  have HS := Lib.hid (row_size hn.len)
  have HNs := Lib.hid hn
  clear hp
  generalize hSH : 3 + L * (1 + S) = SH at *
  have HSH := Lib.hid hSH
  clear hSH
  go_enter Try.func54, Try.ntmps54
  go_wp2_with fail
  refine (PClock_c p _).mono ?_
  rintro e w' ⟨rfl, rfl⟩
  go_wp2_with fail
  refine (PNodes_c p _).mono ?_
  rintro e w' ⟨rfl, rfl⟩
  go_wp2_with fail
  refine (PTickets_c p _).mono ?_
  rintro e w' ⟨rfl, rfl⟩
  have f0 := HC0.out.num hn.len 0 (by omega)
  rw [hn.w] at f0
  go_wp2_with fail
  generalize hBB : w.heap.size = B at *
  have HBB := Lib.hid hBB
  clear hBB
  go_loopw [5, 21] (fun v i wr => ∃ s0 n0 : Nat, s0 ≤ W ∧ i = .int .i64 s0 ∧ Hid (n0 = 3 + s0 * SH) ∧ Hid (CI w B p xs wr v n0)) (fun _ i _ => (W - intOf i).toNat)
  case atStart => exact ⟨0, 3, by omega, rfl, (by show _ = _; omega), HC0⟩
  case round =>
    obtain ⟨s0, n0, hs0, rfl, HN0, HCI⟩ := hrel
    clear HC0
    by_cases hlt : s0 < W
    · have hb := bd1 hlt HSH.out HN0.out hNB
      have hb1 : n0 + 3 ≤ maxLen := by unfold maxLen; omega
      have hb2 : (n0 + 3) * 8 ≤ 140737488355328 := by omega
      have hn := HNs.out
      obtain ⟨n1, hn1⟩ : ∃ n1, n1 = n0 + 1 := ⟨_, rfl⟩
      obtain ⟨n2, hn2⟩ : ∃ n2, n2 = n0 + 2 := ⟨_, rfl⟩
      have HInbox : Hid (∀ wx : World, IsPlan wx p xs → Calls Try.prog 38 #[.pointer (some ⟨p, 0, none⟩), .int .i64 (s0 : Int)] wx fun e w' => e = .returned (.int .i64 (n0 : Int)) ∧ ∃ q, w' = wx.drewN q) := fun wx hx => by
        have := Inbox_c hx hn.len hn.rgt (s0 : Int)
        rw [hn.at_ hlt, HSH.out, ← HN0.out] at this
        exact this
      have HCur : Hid (∀ wx : World, IsPlan wx p xs → Calls Try.prog 39 #[.pointer (some ⟨p, 0, none⟩), .int .i64 (s0 : Int)] wx fun e w' => e = .returned (.int .i64 (n1 : Int)) ∧ ∃ q, w' = wx.drewN q) := fun wx hx => by
        have := Cur_c hx hn.len hn.rgt (s0 : Int)
        rw [hn.at_ hlt, HSH.out, ← HN0.out, show (1 : Int) = ((1 : Nat) : Int) from rfl, within_nat, ← hn1] at this
        exact this
      have HOver : Hid (∀ wx : World, IsPlan wx p xs → Calls Try.prog 40 #[.pointer (some ⟨p, 0, none⟩), .int .i64 (s0 : Int)] wx fun e w' => e = .returned (.int .i64 (n2 : Int)) ∧ ∃ q, w' = wx.drewN q) := fun wx hx => by
        have := Over_c hx hn.len hn.rgt (s0 : Int)
        rw [hn.at_ hlt, HSH.out, ← HN0.out, show (2 : Int) = ((2 : Nat) : Int) from rfl, within_nat, ← hn2] at this
        exact this
      have HRG : Hid (rg n0 ++ [.int .i64 (n0 : Int), .int .i64 (n1 : Int), .int .i64 (n2 : Int)] = rg (n0 + 3)) := rg3 hn1 hn2
      have s1 : 0 ≤ (s0 : Int) := by omega
      have s2 : (s0 : Int) < (W : Int) := by omega
      clear hn hb hn1 hn2
      go_wp2_with fail
      refine (HInbox.out _ (by repeat (first | exact HCI.out.plan | refine isplan_drewN ?_ _ | refine isplan_alloc ?_ _))).mono ?_
      rintro e w' ⟨rfl, qInbox, rfl⟩
      go_wp2_with fail
      refine (HCur.out _ (by repeat (first | exact HCI.out.plan | refine isplan_drewN ?_ _ | refine isplan_alloc ?_ _))).mono ?_
      rintro e w' ⟨rfl, qCur, rfl⟩
      go_wp2_with fail
      refine (HOver.out _ (by repeat (first | exact HCI.out.plan | refine isplan_drewN ?_ _ | refine isplan_alloc ?_ _))).mono ?_
      rintro e w' ⟨rfl, qOver, rfl⟩
      go_wp2_with (first | (at_builtin; (refine wpList_append_own _ rfl (.tmp 24) (.tmp 34) 64 rfl (B + 1) 3 iu (.int .i64 0) 1 8 Try.underlying64 HI.out.1 HI.out.2.1 HI.out.2.2.1 HI.out.2.2.2 rfl (by decide) _ n0 (rg n0) (by simp [Act.eval, Act.put]) ((HCI.out.drewN _).own.alloc _) ⟨wr.heap.size, 0, none⟩ 3 3 [.int .i64 (n0 : Int), .int .i64 (n1 : Int), .int .i64 (n2 : Int)] (by simp [Act.eval, Act.put]) rfl (newsN _ _ _) (by simp [Value.oneCell']) hb1 hb2 (base_le HCI.out.lt.2.2 _ _) ?_; intro v' w2 hown hgrow _; have HC2 := Lib.hid (CI.app (m := 3) (HCI.out.drewN _) hgrow (by rw [← HRG.out]; exact hown)); have g1 := HC2.out.num HNs.out.len 1 (by omega); rw [HNs.out.l] at g1; clear hown hgrow)) | fail)
      clear HCI HInbox HCur HOver HRG
      go_loopw [5, 38] (fun v i wr => ∃ k0 nk : Nat, k0 ≤ L ∧ i = .int .i64 k0 ∧ Hid (nk = 3 + s0 * SH + (3 + k0 * (1 + S))) ∧ Hid (CI w B p xs wr v nk)) (fun _ i _ => (L - intOf i).toNat)
      case atStart => exact ⟨0, n0 + 3, by omega, rfl, (by show _ = _; have := HN0.out; omega), HC2⟩
      case round =>
        obtain ⟨k0, nk, hk0, rfl, HNk, HCI⟩ := hrel
        clear HC2
        by_cases hlt2 : k0 < L
        · have hb := bd2 hlt hlt2 HSH.out HNk.out hNB
          have hb1 : nk + 1 ≤ maxLen := by unfold maxLen; omega
          have hb2 : (nk + 1) * 8 ≤ 140737488355328 := by omega
          have hn := HNs.out
          have HMap : Hid (∀ wx : World, IsPlan wx p xs → Calls Try.prog 41 #[.pointer (some ⟨p, 0, none⟩), .int .i64 (s0 : Int), .int .i64 (k0 : Int)] wx fun e w' => e = .returned (.int .i64 (nk : Int)) ∧ ∃ q, w' = wx.drewN q) := fun wx hx => by
            have := Map_c hx hn.len hn.rgt (s0 : Int) (k0 : Int)
            rw [hn.map_ hlt hlt2, HSH.out, ← HNk.out] at this
            exact this
          have HRG : Hid (rg nk ++ [.int .i64 (nk : Int)] = rg (nk + 1)) := rg_succ nk
          have k1 : 0 ≤ (k0 : Int) := by omega
          have k2 : (k0 : Int) < (L : Int) := by omega
          clear hn hb
          go_wp2_with fail
          refine (HMap.out _ (by repeat (first | exact HCI.out.plan | refine isplan_drewN ?_ _ | refine isplan_alloc ?_ _))).mono ?_
          rintro e w' ⟨rfl, qMap, rfl⟩
          go_wp2_with (first | (at_builtin; (refine wpList_append_own _ rfl (.tmp 41) (.tmp 46) 64 rfl (B + 1) 3 iu (.int .i64 0) 1 8 Try.underlying64 HI.out.1 HI.out.2.1 HI.out.2.2.1 HI.out.2.2.2 rfl (by decide) _ nk (rg nk) (by simp [Act.eval, Act.put]) ((HCI.out.drewN _).own.alloc _) ⟨wr.heap.size, 0, none⟩ 1 1 [.int .i64 (nk : Int)] (by simp [Act.eval, Act.put]) rfl (newsN _ _ _) (by simp [Value.oneCell']) hb1 hb2 (base_le HCI.out.lt.2.2 _ _) ?_; intro v' w2 hown hgrow _; have HC2 := Lib.hid (CI.app (m := 1) (HCI.out.drewN _) hgrow (by rw [← HRG.out]; exact hown)); clear hown hgrow)) | (refine wpList_load_row rfl 23 (.tmp 3) rfl B (by simp [Act.eval, Act.put]) 23 (row xs) (0, 0) _ HC2.out.box Try.underlying23 rfl (by rw [HS.out]; exact HZ.out) ?_))
          refine (HSL.out _).mono ?_
          rintro e w3 ⟨rfl, hM3⟩
          have HC3 := Lib.hid (CI.later HC2.out hM3)
          clear HC2 hM3 HCI HMap HRG
          go_wp2_with fail
          go_loopw [5, 50] (fun v i wr => ∃ i0 n : Nat, i0 ≤ S ∧ i = .int .i64 i0 ∧ Hid (n = 3 + s0 * SH + (3 + k0 * (1 + S)) + (1 + i0 * 1)) ∧ Hid (CI w B p xs wr v n)) (fun _ i _ => (S - intOf i).toNat)
          case atStart => exact ⟨0, nk + 1, by omega, rfl, (by show _ = _; have := HNk.out; omega), HC3⟩
          case round =>
            obtain ⟨i0, n, hi0, rfl, HN, HCI⟩ := hrel
            clear HC3
            by_cases hlt3 : i0 < S
            · have hb := bd3 hlt hlt2 hlt3 HSH.out HN.out hNB
              have hb1 : n + 1 ≤ maxLen := by unfold maxLen; omega
              have hb2 : (n + 1) * 8 ≤ 140737488355328 := by omega
              have hn := HNs.out
              have HSlot : Hid (∀ wx : World, IsPlan wx p xs → Calls Try.prog 42 #[.pointer (some ⟨p, 0, none⟩), .int .i64 (s0 : Int), .int .i64 (k0 : Int), .int .i64 (i0 : Int)] wx fun e w' => e = .returned (.int .i64 (n : Int)) ∧ ∃ q, w' = wx.drewN q) := fun wx hx => by
                have := Slot_c hx hn.len hn.rgt (s0 : Int) (k0 : Int) (i0 : Int)
                rw [hn.slot_ hlt hlt2 hlt3, HSH.out, ← HN.out] at this
                exact this
              have HRG : Hid (rg n ++ [.int .i64 (n : Int)] = rg (n + 1)) := rg_succ n
              have j0 : 0 ≤ (i0 : Int) := by omega
              have j1 : (i0 : Int) < (S : Int) := by omega
              clear hn hb
              go_wp2_with fail
              refine (HSlot.out _ (by repeat (first | exact HCI.out.plan | refine isplan_drewN ?_ _ | refine isplan_alloc ?_ _))).mono ?_
              rintro e w' ⟨rfl, qSlot, rfl⟩
              go_wp2_with (first | (at_builtin; (refine wpList_append_own _ rfl (.tmp 53) (.tmp 59) 64 rfl (B + 1) 3 iu (.int .i64 0) 1 8 Try.underlying64 HI.out.1 HI.out.2.1 HI.out.2.2.1 HI.out.2.2.2 rfl (by decide) _ n (rg n) (by simp [Act.eval, Act.put]) ((HCI.out.drewN _).own.alloc _) ⟨wr.heap.size, 0, none⟩ 1 1 [.int .i64 (n : Int)] (by simp [Act.eval, Act.put]) rfl (newsN _ _ _) (by simp [Value.oneCell']) hb1 hb2 (base_le HCI.out.lt.2.2 _ _) ?_; intro v' w2 hown hgrow _; have HC2 := Lib.hid (CI.app (m := 1) (HCI.out.drewN _) hgrow (by rw [← HRG.out]; exact hown)); clear hown hgrow)))
              go_roundw
              case rel => exact ⟨i0 + 1, n + 1, by omega, by go_num, (by show _ = _; have := HN.out; omega), HC2⟩
              case measure => simp [intOf]; omega
            · obtain rfl : i0 = S := by omega
              have HN4 : Hid (n = 3 + s0 * SH + (3 + (k0 + 1) * (1 + i0))) := by show _ = _; rw [HN.out, Nat.succ_mul]; omega
              go_wp2_with fail
              go_roundw
              case rel => exact ⟨k0 + 1, n, by omega, by go_num, HN4, HCI⟩
              case measure => simp [intOf]; omega
        · obtain rfl : k0 = L := by omega
          have HN4 : Hid (nk = 3 + (s0 + 1) * SH) := by show _ = _; rw [HNk.out, Nat.succ_mul, ← HSH.out]; omega
          go_wp2_with fail
          go_roundw
          case rel => exact ⟨s0 + 1, nk, by omega, by go_num, HN4, HCI⟩
          case measure => simp [intOf]; omega
    · obtain rfl : W = s0 := by omega
      have g3 := HCI.out.num HNs.out.len 3 (by omega)
      rw [HNs.out.n] at g3
      go_wp2_with fail
      go_loopw [5, 66] (fun v i wr => ∃ i0 n : Nat, i0 ≤ N ∧ i = .int .i64 i0 ∧ Hid (n = 3 + W * SH + i0 * 4) ∧ Hid (CI w B p xs wr v n)) (fun _ i _ => (N - intOf i).toNat)
      case atStart => exact ⟨0, n0, by omega, rfl, (by show _ = _; have := HN0.out; omega), HCI⟩
      case round =>
        clear HCI
        obtain ⟨i0, n, hi0, rfl, HN, HCI⟩ := hrel
        by_cases hlt : i0 < N
        · have hb : n + 4 ≤ 75000 := by have := HN.out; omega
          have hb1 : n + 4 ≤ maxLen := by unfold maxLen; omega
          have hb2 : (n + 4) * 8 ≤ 140737488355328 := by omega
          have hn := HNs.out
          obtain ⟨n1, hn1⟩ : ∃ n1, n1 = n + 1 := ⟨_, rfl⟩
          obtain ⟨n2, hn2⟩ : ∃ n2, n2 = n + 2 := ⟨_, rfl⟩
          obtain ⟨n3, hn3⟩ : ∃ n3, n3 = n + 3 := ⟨_, rfl⟩
          have e0 : nodeI xs (i0 : Int) 0 = (n : Int) := by
            have h := hn.node_ hlt 0
            rw [HSH.out] at h
            refine h.trans ?_
            rw [HN.out]; rfl
          have HState : Hid (∀ wx : World, IsPlan wx p xs → Calls Try.prog 43 #[.pointer (some ⟨p, 0, none⟩), .int .i64 (i0 : Int)] wx fun e w' => e = .returned (.int .i64 (n : Int)) ∧ ∃ q, w' = wx.drewN q) := fun wx hx => by
            have := State_c hx hn.len hn.rgt (i0 : Int)
            rw [e0] at this
            exact this
          have e1 : nodeI xs (i0 : Int) 1 = (n1 : Int) := by
            have h := hn.node_ hlt 1
            rw [HSH.out] at h
            refine h.trans ?_
            rw [hn1, HN.out]
          have HHome : Hid (∀ wx : World, IsPlan wx p xs → Calls Try.prog 44 #[.pointer (some ⟨p, 0, none⟩), .int .i64 (i0 : Int)] wx fun e w' => e = .returned (.int .i64 (n1 : Int)) ∧ ∃ q, w' = wx.drewN q) := fun wx hx => by
            have := Home_c hx hn.len hn.rgt (i0 : Int)
            rw [e1] at this
            exact this
          have e2 : nodeI xs (i0 : Int) 2 = (n2 : Int) := by
            have h := hn.node_ hlt 2
            rw [HSH.out] at h
            refine h.trans ?_
            rw [hn2, HN.out]
          have HUser : Hid (∀ wx : World, IsPlan wx p xs → Calls Try.prog 45 #[.pointer (some ⟨p, 0, none⟩), .int .i64 (i0 : Int)] wx fun e w' => e = .returned (.int .i64 (n2 : Int)) ∧ ∃ q, w' = wx.drewN q) := fun wx hx => by
            have := User_c hx hn.len hn.rgt (i0 : Int)
            rw [e2] at this
            exact this
          have e3 : nodeI xs (i0 : Int) 3 = (n3 : Int) := by
            have h := hn.node_ hlt 3
            rw [HSH.out] at h
            refine h.trans ?_
            rw [hn3, HN.out]
          have HNodeLink : Hid (∀ wx : World, IsPlan wx p xs → Calls Try.prog 46 #[.pointer (some ⟨p, 0, none⟩), .int .i64 (i0 : Int)] wx fun e w' => e = .returned (.int .i64 (n3 : Int)) ∧ ∃ q, w' = wx.drewN q) := fun wx hx => by
            have := NodeLink_c hx hn.len hn.rgt (i0 : Int)
            rw [e3] at this
            exact this
          have HRG : Hid (rg n ++ [.int .i64 (n : Int), .int .i64 (n1 : Int), .int .i64 (n2 : Int), .int .i64 (n3 : Int)] = rg (n + 4)) := rg4 hn1 hn2 hn3
          have s1 : 0 ≤ (i0 : Int) := by omega
          have s2 : (i0 : Int) < (N : Int) := by omega
          clear hn hb hn1 hn2 hn3 e0 e1 e2 e3
          go_wp2_with fail
          refine (HState.out _ (by repeat (first | exact HCI.out.plan | refine isplan_drewN ?_ _ | refine isplan_alloc ?_ _))).mono ?_
          rintro e w' ⟨rfl, qState, rfl⟩
          go_wp2_with fail
          refine (HHome.out _ (by repeat (first | exact HCI.out.plan | refine isplan_drewN ?_ _ | refine isplan_alloc ?_ _))).mono ?_
          rintro e w' ⟨rfl, qHome, rfl⟩
          go_wp2_with fail
          refine (HUser.out _ (by repeat (first | exact HCI.out.plan | refine isplan_drewN ?_ _ | refine isplan_alloc ?_ _))).mono ?_
          rintro e w' ⟨rfl, qUser, rfl⟩
          go_wp2_with fail
          refine (HNodeLink.out _ (by repeat (first | exact HCI.out.plan | refine isplan_drewN ?_ _ | refine isplan_alloc ?_ _))).mono ?_
          rintro e w' ⟨rfl, qNodeLink, rfl⟩
          go_wp2_with (first | (at_builtin; (refine wpList_append_own _ rfl (.tmp 69) (.tmp 82) 64 rfl (B + 1) 3 iu (.int .i64 0) 1 8 Try.underlying64 HI.out.1 HI.out.2.1 HI.out.2.2.1 HI.out.2.2.2 rfl (by decide) _ n (rg n) (by simp [Act.eval, Act.put]) ((HCI.out.drewN _).own.alloc _) ⟨wr.heap.size, 0, none⟩ 4 4 [.int .i64 (n : Int), .int .i64 (n1 : Int), .int .i64 (n2 : Int), .int .i64 (n3 : Int)] (by simp [Act.eval, Act.put]) rfl (newsN _ _ _) (by simp [Value.oneCell']) hb1 hb2 (base_le HCI.out.lt.2.2 _ _) ?_; intro v' w2 hown hgrow _; have HC2 := Lib.hid (CI.app (m := 4) (HCI.out.drewN _) hgrow (by rw [← HRG.out]; exact hown)); clear hown hgrow)))
          go_roundw
          case rel => exact ⟨i0 + 1, n + 4, by omega, by go_num, (by show _ = _; have := HN.out; omega), HC2⟩
          case measure => simp [intOf]; omega
        · obtain rfl : N = i0 := by omega
          have g4 := HCI.out.num HNs.out.len 4 (by omega)
          rw [HNs.out.t] at g4
          go_wp2_with fail
          go_loopw [5, 87] (fun v i wr => ∃ i0 n : Nat, i0 ≤ T ∧ i = .int .i64 i0 ∧ Hid (n = 3 + W * SH + 4 * N + i0 * 3) ∧ Hid (CI w B p xs wr v n)) (fun _ i _ => (T - intOf i).toNat)
          case atStart => exact ⟨0, n, by omega, rfl, (by show _ = _; have := HN.out; omega), HCI⟩
          case round =>
            clear HCI
            obtain ⟨i0, n, hi0, rfl, HN, HCI⟩ := hrel
            by_cases hlt : i0 < T
            · have hb : n + 3 ≤ 75000 := by have := HN.out; omega
              have hb1 : n + 3 ≤ maxLen := by unfold maxLen; omega
              have hb2 : (n + 3) * 8 ≤ 140737488355328 := by omega
              have hn := HNs.out
              obtain ⟨n1, hn1⟩ : ∃ n1, n1 = n + 1 := ⟨_, rfl⟩
              obtain ⟨n2, hn2⟩ : ∃ n2, n2 = n + 2 := ⟨_, rfl⟩
              have e0 : ticketI xs (i0 : Int) 0 = (n : Int) := by
                have h := hn.ticket_ hlt 0
                rw [HSH.out] at h
                refine h.trans ?_
                rw [HN.out]; rfl
              have HKey : Hid (∀ wx : World, IsPlan wx p xs → Calls Try.prog 47 #[.pointer (some ⟨p, 0, none⟩), .int .i64 (i0 : Int)] wx fun e w' => e = .returned (.int .i64 (n : Int)) ∧ ∃ q, w' = wx.drewN q) := fun wx hx => by
                have := Key_c hx hn.len hn.rgt (i0 : Int)
                rw [e0] at this
                exact this
              have e1 : ticketI xs (i0 : Int) 1 = (n1 : Int) := by
                have h := hn.ticket_ hlt 1
                rw [HSH.out] at h
                refine h.trans ?_
                rw [hn1, HN.out]
              have HTime : Hid (∀ wx : World, IsPlan wx p xs → Calls Try.prog 48 #[.pointer (some ⟨p, 0, none⟩), .int .i64 (i0 : Int)] wx fun e w' => e = .returned (.int .i64 (n1 : Int)) ∧ ∃ q, w' = wx.drewN q) := fun wx hx => by
                have := Time_c hx hn.len hn.rgt (i0 : Int)
                rw [e1] at this
                exact this
              have e2 : ticketI xs (i0 : Int) 2 = (n2 : Int) := by
                have h := hn.ticket_ hlt 2
                rw [HSH.out] at h
                refine h.trans ?_
                rw [hn2, HN.out]
              have HTicketLink : Hid (∀ wx : World, IsPlan wx p xs → Calls Try.prog 49 #[.pointer (some ⟨p, 0, none⟩), .int .i64 (i0 : Int)] wx fun e w' => e = .returned (.int .i64 (n2 : Int)) ∧ ∃ q, w' = wx.drewN q) := fun wx hx => by
                have := TicketLink_c hx hn.len hn.rgt (i0 : Int)
                rw [e2] at this
                exact this
              have HRG : Hid (rg n ++ [.int .i64 (n : Int), .int .i64 (n1 : Int), .int .i64 (n2 : Int)] = rg (n + 3)) := rg3 hn1 hn2
              have s1 : 0 ≤ (i0 : Int) := by omega
              have s2 : (i0 : Int) < (T : Int) := by omega
              clear hn hb hn1 hn2 e0 e1 e2
              go_wp2_with fail
              refine (HKey.out _ (by repeat (first | exact HCI.out.plan | refine isplan_drewN ?_ _ | refine isplan_alloc ?_ _))).mono ?_
              rintro e w' ⟨rfl, qKey, rfl⟩
              go_wp2_with fail
              refine (HTime.out _ (by repeat (first | exact HCI.out.plan | refine isplan_drewN ?_ _ | refine isplan_alloc ?_ _))).mono ?_
              rintro e w' ⟨rfl, qTime, rfl⟩
              go_wp2_with fail
              refine (HTicketLink.out _ (by repeat (first | exact HCI.out.plan | refine isplan_drewN ?_ _ | refine isplan_alloc ?_ _))).mono ?_
              rintro e w' ⟨rfl, qTicketLink, rfl⟩
              go_wp2_with (first | (at_builtin; (refine wpList_append_own _ rfl (.tmp 90) (.tmp 100) 64 rfl (B + 1) 3 iu (.int .i64 0) 1 8 Try.underlying64 HI.out.1 HI.out.2.1 HI.out.2.2.1 HI.out.2.2.2 rfl (by decide) _ n (rg n) (by simp [Act.eval, Act.put]) ((HCI.out.drewN _).own.alloc _) ⟨wr.heap.size, 0, none⟩ 3 3 [.int .i64 (n : Int), .int .i64 (n1 : Int), .int .i64 (n2 : Int)] (by simp [Act.eval, Act.put]) rfl (newsN _ _ _) (by simp [Value.oneCell']) hb1 hb2 (base_le HCI.out.lt.2.2 _ _) ?_; intro v' w2 hown hgrow _; have HC2 := Lib.hid (CI.app (m := 3) (HCI.out.drewN _) hgrow (by rw [← HRG.out]; exact hown)); clear hown hgrow)))
              go_roundw
              case rel => exact ⟨i0 + 1, n + 3, by omega, by go_num, (by show _ = _; have := HN.out; omega), HC2⟩
              case measure => simp [intOf]; omega
            · obtain rfl : T = i0 := by omega
              have g7 := HCI.out.num HNs.out.len 7 (by omega)
              rw [HNs.out.c] at g7
              go_wp2_with fail
              go_loopw [5, 105] (fun v i wr => ∃ i0 n : Nat, i0 ≤ C ∧ i = .int .i64 i0 ∧ Hid (n = 3 + W * SH + 4 * N + 3 * T + i0 * 1) ∧ Hid (CI w B p xs wr v n)) (fun _ i _ => (C - intOf i).toNat)
              case atStart => exact ⟨0, n, by omega, rfl, (by show _ = _; have := HN.out; omega), HCI⟩
              case round =>
                clear HCI
                obtain ⟨i0, n, hi0, rfl, HN, HCI⟩ := hrel
                by_cases hlt : i0 < C
                · have hb : n + 1 ≤ 75000 := by have := HN.out; omega
                  have hb1 : n + 1 ≤ maxLen := by unfold maxLen; omega
                  have hb2 : (n + 1) * 8 ≤ 140737488355328 := by omega
                  have hn := HNs.out
                  have e0 : connI xs (i0 : Int) = (n : Int) := by
                    have h := hn.conn_ hlt
                    rw [HSH.out] at h
                    refine h.trans ?_
                    rw [HN.out]
                  have HConn : Hid (∀ wx : World, IsPlan wx p xs → Calls Try.prog 50 #[.pointer (some ⟨p, 0, none⟩), .int .i64 (i0 : Int)] wx fun e w' => e = .returned (.int .i64 (n : Int)) ∧ ∃ q, w' = wx.drewN q) := fun wx hx => by
                    have := Conn_c hx hn.len hn.rgt (i0 : Int)
                    rw [e0] at this
                    exact this
                  have HRG : Hid (rg n ++ [.int .i64 (n : Int)] = rg (n + 1)) := rg_succ n
                  have s1 : 0 ≤ (i0 : Int) := by omega
                  have s2 : (i0 : Int) < (C : Int) := by omega
                  clear hn hb  e0
                  go_wp2_with fail
                  refine (HConn.out _ (by repeat (first | exact HCI.out.plan | refine isplan_drewN ?_ _ | refine isplan_alloc ?_ _))).mono ?_
                  rintro e w' ⟨rfl, qConn, rfl⟩
                  go_wp2_with (first | (at_builtin; (refine wpList_append_own _ rfl (.tmp 108) (.tmp 112) 64 rfl (B + 1) 3 iu (.int .i64 0) 1 8 Try.underlying64 HI.out.1 HI.out.2.1 HI.out.2.2.1 HI.out.2.2.2 rfl (by decide) _ n (rg n) (by simp [Act.eval, Act.put]) ((HCI.out.drewN _).own.alloc _) ⟨wr.heap.size, 0, none⟩ 1 1 [.int .i64 (n : Int)] (by simp [Act.eval, Act.put]) rfl (newsN _ _ _) (by simp [Value.oneCell']) hb1 hb2 (base_le HCI.out.lt.2.2 _ _) ?_; intro v' w2 hown hgrow _; have HC2 := Lib.hid (CI.app (m := 1) (HCI.out.drewN _) hgrow (by rw [← HRG.out]; exact hown)); clear hown hgrow)))
                  go_roundw
                  case rel => exact ⟨i0 + 1, n + 1, by omega, by go_num, (by show _ = _; have := HN.out; omega), HC2⟩
                  case measure => simp [intOf]; omega
                · obtain rfl : C = i0 := by omega
                  have HE : Hid (n = 3 + W * SH + 4 * N + 3 * T + C) := by show _ = _; have := HN.out; omega
                  go_wp2_with fail
                  go_ret
                  refine ⟨_, rfl, ?_, HCI.out.md⟩
                  rw [← HE.out, HBB.out]
                  exact HCI.out.own
end Go.Proofs.Ytnkcekgjppkbpaa.Law3
