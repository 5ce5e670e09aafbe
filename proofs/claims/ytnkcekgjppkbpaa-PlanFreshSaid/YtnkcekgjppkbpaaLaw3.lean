/- Package knelllaw03, walked: PlanTurned. -/
import Derived.Test.YtnkcekgjppkbpaaPlan6
namespace Go.Proofs.Ytnkcekgjppkbpaa.Law3
open Go.RowKit Go.Proofs.Ytnkcekgjppkbpaa Go.Proofs.Ytnkcekgjppkbpaa.PlanN Go.Proofs.Ytnkcekgjppkbpaa.Plan
set_option linter.unusedVariables false
set_option linter.unusedSimpArgs false

def row (xs : List Int) : Array Value := (xs.map (Value.int .i64)).toArray
theorem row_size {xs : List Int} (h : xs.length = 13) : (row xs).size = 13 := by unfold row; simp [h]
theorem row_one (xs : List Int) : (row xs).all (·.oneCell') = true := by
  unfold row; simp [Value.oneCell']
theorem row_at {xs : List Int} {i : Nat} (h : i < xs.length) : (row xs)[i]? = some (.int .i64 xs[i]) := by unfold row; simp [h]
theorem row_set (xs : List Int) (i : Nat) (v : Int) : (row xs).setIfInBounds i (.int .i64 v) = row (xs.set i v) := by
  unfold row; rw [List.setIfInBounds_toArray, List.map_set]
/-- A row of numbers lies at block b. -/
abbrev At (w : World) (b : Nat) (t : TypeId) (xs : List Int) : Prop := Hid (w.heap[b]? = some (.cells (row xs) t (0, 0)))
theorem At.later {w w' : World} {b : Nat} {t : TypeId} {xs : List Int} (h : At w b t xs) (m : Made w w') : At w' b t xs := (m.block _ (Array.getElem?_eq_some_iff.1 h.out).1).trans h.out
theorem At.set {w : World} {b : Nat} {t : TypeId} {xs : List Int} (h : At w b t xs) (i : Nat) (v : Int) : At (w.setCell ⟨b, i, none⟩ (.int .i64 v)) b t (xs.set i v) := by
  show _ = _
  rw [setCell_eq_setRow _ _ _ _ _ _ _ h.out, heap_setRow_same _ _ _ _ _ _ h.out, row_set]
theorem At.put_other {w : World} {b c : Nat} {t : TypeId} {xs : List Int} (h : At w b t xs) (hne : b ≠ c) (i : Nat) (v : Value) : At (w.setCell ⟨c, i, none⟩ v) b t xs := by
  show _ = _
  rw [Plan.heap_setCell_other _ c i b v hne]; exact h.out
theorem At.cell {w : World} {b : Nat} {t : TypeId} {xs : List Int} (h : At w b t xs) {i : Nat} (hi : i < xs.length) : w.cell? ⟨b, i, none⟩ = some (.int .i64 xs[i]) := by
  rw [cell_of_row _ _ _ _ _ _ h.out]; exact row_at hi
theorem At.free {w : World} {b : Nat} {t : TypeId} {xs : List Int} (h : At w b t xs) (i : Nat) : w.frozen? ⟨b, i, none⟩ = false := frozen_of_row _ _ _ _ _ h.out
theorem At.made {w0 w : World} {b : Nat} (h : Made w0 w) (hb : w0.heap.size ≤ b) (i : Nat) (v : Value) : Made w0 (w.setCell ⟨b, i, none⟩ v) := Below.setCell h hb v
theorem at_start (w : World) (xs : List Int) (t : TypeId) : At (w.alloc (.cells (row xs) t)) w.heap.size t xs := heap_alloc_new _ _
theorem al_arr (w : World) : (Instr.alloc 22 true (.tuple #[])).run Try.prog w = .ok (.pointer (some ⟨w.heap.size, 0, none⟩)) (w.alloc (.cells Z13 22)) := by kernel_rfl

theorem wpList_load_row_g {P : Program} {ops : Array Oper} {rest : List Oper} {o : Oper} {a : Act} {w : World} {Q : Exit → Act → World → Prop} (hw : Region.wanted o (yielded ops a.tmps) = true) (ty : TypeId) (x : Operand) (ho : o.op = .load ty x)
    (g : Nat) (hx : a.eval x = .pointer (some ⟨g, 0, none⟩)) (t : TypeId) (cs : Array Value) (fr : Nat × Nat) (d : TypeDesc) (hg : w.heap[g]? = some (.cells cs t fr))
    (hu : P.underlying ty = some d) (hd : (match d with | .struct _ | .array _ _ => true | _ => false) = true) (hi : (P.info? ty).map (·.size) = some cs.size)
    (h : wpList P ops Q rest (a.put o.dst (.agg cs)) w) : wpList P ops Q (o :: rest) a w :=
  wpList_step fun _ hK => by rw [if_pos hw]; exact wp_load_row ty x ho g hx t cs fr d hg hu hd hi (hK _ _ h)
theorem turned_chk {xs : List Int} (h : xs.length = 13) (hr : Rgt xs) (i : Nat) (hi : i < 13) (to : Int) : chk (xs.set i to) = (0, 0) ∨ chk (xs.set i to) = ((i : Int), 7) := by
  rcases chk_cases (xs.set i to) with ⟨h1, _⟩ | ⟨j, h1, h2, _, h4⟩
  · exact .inl h1
  · refine .inr ?_
    by_cases e : j = i
    · rw [h4, e]
    · exfalso
      have := hr j h1
      have e2 : (xs.set i to).getD j 0 = xs.getD j 0 := by
        simp [List.getElem?_set, show ¬ i = j from fun h => e h.symm]
      unfold bad at this h2
      rw [e2, this] at h2
      cases h2

theorem put_world {w w4 : World} {b0 : Nat} {t0 t : TypeId} {xs : List Int} (h : At w4 b0 t0 xs) (hN : Made w w4) : ∃ w5, (w4.alloc (.cells Z13 t)).setRow w4.heap.size (row xs) = w5 ∧ At w5 b0 t0 xs ∧ At w5 w4.heap.size t xs ∧ Made w w5 ∧ w4.heap.size < w5.heap.size := by
  have hlt := (Array.getElem?_eq_some_iff.1 h.out).1
  refine ⟨_, rfl, ?_, heap_setRow_same _ _ _ _ _ _ (heap_alloc_new _ _), Below.setRow (hN.alloc hN.size _) hN.size _, ?_⟩
  · show _ = _
    rw [heap_setRow_other _ _ _ _ (by omega), heap_alloc_old _ _ hlt]; exact h.out
  · simp
theorem S2_start {w w0 : World} {b c : Nat} {cs : List Value} (h : w0.rangeAt b 0 cs) (h2 : w0.rangeAt c 0 cs) (hl : b < w0.heap.size) (hl2 : c < w0.heap.size) (hM : Made w w0) :
    w0.drew.rangeAt b 0 cs ∧ w0.drew.rangeAt c 0 cs ∧ b < w0.drew.heap.size ∧ c < w0.drew.heap.size ∧ Made w w0.drew := ⟨h, h2, hl, hl2, below_drewN hM 1⟩
theorem S2_call {w w1 w2 : World} {b c : Nat} {cs : List Value} (h : w1.rangeAt b 0 cs ∧ w1.rangeAt c 0 cs ∧ b < w1.heap.size ∧ c < w1.heap.size ∧ Made w w1) (k : Made w1 w2) :
    w2.rangeAt b 0 cs ∧ w2.rangeAt c 0 cs ∧ b < w2.heap.size ∧ c < w2.heap.size ∧ Made w w2 :=
  ⟨range_later k h.2.2.1 h.1, range_later k h.2.2.2.1 h.2.1, Nat.lt_of_lt_of_le h.2.2.1 k.size, Nat.lt_of_lt_of_le h.2.2.2.1 k.size, Made.trans h.2.2.2.2 k⟩
theorem S2_made {w w1 : World} {b c : Nat} {cs : List Value} (h : w1.rangeAt b 0 cs ∧ w1.rangeAt c 0 cs ∧ b < w1.heap.size ∧ c < w1.heap.size ∧ Made w w1) : Made w w1 := h.2.2.2.2
theorem At.range {w : World} {b : Nat} {t : TypeId} {xs : List Int} (h : At w b t xs) : w.rangeAt b 0 (xs.map (Value.int .i64)) := range_row h.out
theorem At.lt {w : World} {b : Nat} {t : TypeId} {xs : List Int} (h : At w b t xs) : b < w.heap.size := (Array.getElem?_eq_some_iff.1 h.out).1

set_option maxRecDepth 100000 in
set_option maxHeartbeats 1000000 in
theorem turned_wrong (xs : List Int) (a to : Int) (w : World) (h : xs.length = 13) (hr : ¬ (chk xs).2 = 0) :
    Calls Try.prog 3 #[.agg (row xs), .int .u8 a, .int .i64 to] w fun e w' => e = .returned (.bool true) ∧ Made w w' := by
  have HR := Lib.hid (Right_c xs h false (by simp [hr]))
  have HZ := Lib.hid (show (Try.prog.info? 23).map (·.size) = some 13 by kernel_rfl)
  have HS := Lib.hid (row_size h)
  change Hid (∀ w : World, Calls Try.prog 14 #[.agg (row xs)] w _) at HR
  go_enter Try.func3, Try.ntmps3
  go_wp2_with fail
  refine (speaks_c _).mono ?_
  rintro e w1 ⟨rfl, hM1⟩
  have H1 := (at_start w xs 23).later hM1
  have hM := Made.trans ((Made.refl w).alloc (Nat.le_refl _) _) hM1
  clear hM1
  go_wp2_with (refine wpList_load_row_g (by simp [Region.wanted, yielded, Act.put]) 23 (.tmp 3) rfl w.heap.size (by simp [Act.eval, Act.put]) 23 (row xs) (0, 0) _ H1.out Try.underlying23 rfl (by rw [HS.out]; exact HZ.out) ?_)
  refine (HR.out _).mono ?_
  rintro e w2 ⟨rfl, hM2⟩
  go_wp2_with fail
  refine (speaks_c _).mono ?_
  rintro e w3 ⟨rfl, hM3⟩
  go_wp2_with fail
  go_ret
  exact ⟨rfl, Made.trans hM (Made.trans hM2 hM3)⟩

set_option maxRecDepth 100000 in
set_option maxHeartbeats 2000000 in
theorem turned_right (xs : List Int) (a to : Int) (w : World) (h : xs.length = 13) (hr : Rgt xs) (i : Nat) (hi : i < 13) (ha : 0 ≤ a ∧ a < 256) (hmod : a % 13 = (i : Int)) :
    Calls Try.prog 3 #[.agg (row xs), .int .u8 a, .int .i64 to] w fun e w' => e = .returned (.bool true) ∧ Made w w' := by
  have HR := Lib.hid (Right_c xs h true (by rw [chk_right hr]; rfl))
  change Hid (∀ w : World, Calls Try.prog 14 #[.agg (row xs)] w _) at HR
  have HO := Lib.hid (OfC_c xs h)
  change Hid (∀ w : World, Calls Try.prog 16 #[.agg (row xs)] w fun e w' => e = .returned (.agg (row xs)) ∧ Made w w') at HO
  have HL := Lib.hid (List_c xs h)
  change Hid (∀ w : World, Calls Try.prog 15 #[.agg (row xs)] w fun e w' => e = .returned (.agg (row xs)) ∧ Made w w') at HL
  have HP := Lib.hid (Of_c xs h)
  change Hid (∀ w : World, Calls Try.prog 18 #[.agg (row xs)] w fun e w' => e = .returned (.agg (row xs)) ∧ Made w w') at HP
  have HC := Lib.hid (Check_c xs h)
  rw [chk_right hr] at HC
  change Hid (∀ w : World, Calls Try.prog 17 #[.agg (row xs)] w fun e w' => e = .returned (.tuple #[.int .i64 0, .int .i64 0]) ∧ Made w w') at HC
  have h' : (xs.set i to).length = 13 := by simp [h]
  have HP' := Lib.hid (Of_c (xs.set i to) h')
  change Hid (∀ w : World, Calls Try.prog 18 #[.agg (row (xs.set i to))] w fun e w' => e = .returned (.agg (row (xs.set i to))) ∧ Made w w') at HP'
  have HC' := Lib.hid (Check_c (xs.set i to) h')
  change Hid (∀ w : World, Calls Try.prog 17 #[.agg (row (xs.set i to))] w fun e w' => e = .returned (.tuple #[.int .i64 (chk (xs.set i to)).1, .int .i64 (chk (xs.set i to)).2]) ∧ Made w w') at HC'
  have HT := turned_chk h hr i hi to
  have HE := Lib.hid (eq_cfg xs h)
  change Hid (∀ w : World, (Op.equalIn 10000 28 (.agg (row xs)) (.agg (row xs))).run Try.prog w = .ok true w) at HE
  have HZ := Lib.hid (show (Try.prog.info? 23).map (·.size) = some 13 by kernel_rfl)
  have HZ2 := Lib.hid (show (Try.prog.info? 22).map (·.size) = some 13 by kernel_rfl)
  have HS := Lib.hid (row_size h)
  have HS' := Lib.hid (row_size h')
  have hix : i < xs.length := by omega
  obtain ⟨was, hwas⟩ : ∃ v, v = xs[i] := ⟨_, rfl⟩
  have HW := Lib.hid hwas
  have hback : (xs.set i to).set i was = xs := by rw [hwas]; simp
  clear hwas
  have HBK := Lib.hid hback
  have hlen' : i < (xs.set i to).length := by omega
  have hget' : (xs.set i to)[i] = to := by simp
  have HG' := Lib.hid hget'
  have a0 := ha.1
  have a1 := ha.2
  have im : (i : Int) < 13 := by omega
  clear ha hback hget' hr
  generalize (chk (xs.set i to)) = r at HT HC'
  go_enter Try.func3, Try.ntmps3
  go_wp2_with fail
  refine (speaks_c _).mono ?_
  rintro e w1 ⟨rfl, hM1⟩
  have H1 := (at_start w xs 23).later hM1
  have hM := Made.trans ((Made.refl w).alloc (Nat.le_refl _) _) hM1
  clear hM1
  go_wp2_with (refine wpList_load_row_g (by simp [Region.wanted, yielded, Act.put]) 23 (.tmp 3) rfl w.heap.size (by simp [Act.eval, Act.put]) 23 (row xs) (0, 0) _ H1.out Try.underlying23 rfl (by rw [HS.out]; exact HZ.out) ?_)
  refine (HR.out _).mono ?_
  rintro e w2 ⟨rfl, hM2⟩
  have H2 := H1.later hM2
  have hN2 := Made.trans hM hM2
  clear H1 hM hM2
  go_wp2_with (refine wpList_load_row rfl 23 (.tmp 3) rfl w.heap.size (by simp [Act.eval, Act.put]) 23 (row xs) (0, 0) _ H2.out Try.underlying23 rfl (by rw [HS.out]; exact HZ.out) ?_)
  refine (HO.out _).mono ?_
  rintro e w3 ⟨rfl, hM3⟩
  have H3 := H2.later hM3
  have hN3 := Made.trans hN2 hM3
  clear H2 hN2 hM3
  go_wp2_with fail
  refine (HL.out _).mono ?_
  rintro e w4 ⟨rfl, hM4⟩
  have H4 := H3.later hM4
  have hN4 := Made.trans hN3 hM4
  clear H3 hN3 hM4
  go_wp2_with (first | (refine wpList_alloc_zero rfl 22 rfl Z13 al_arr ?_) | (refine wpList_store_row rfl 22 (.tmp 8) (.tmp 25) rfl w4.heap.size (row xs) (by simp [Act.eval, Act.put]) (by simp [Act.eval, Act.put]) 22 Z13 (heap_alloc_new _ _) (by rw [HS.out]; exact HZ2.out) (by rw [HS.out]; rfl) (row_one xs) ?_; obtain ⟨w5, hw5, H5, G5, hN5, hlt5⟩ := put_world (t := 22) H4 hN4; rw [hw5]; clear hw5; have c5 : w5.cell? ⟨w4.heap.size, i, none⟩ = some (.int .i64 was) := (G5.cell hix).trans (by rw [← HW.out]); have z5 := G5.free i) | (refine wpList_load_row rfl 23 (.tmp 3) rfl w.heap.size (by simp [Act.eval, Act.put]) 23 (row xs) (0, 0) _ H4.out Try.underlying23 rfl (by rw [HS.out]; exact HZ.out) ?_) | (refine wpList_load_row rfl 22 (.tmp 8) rfl w4.heap.size (by simp [Act.eval, Act.put]) 22 (row (xs.set i to)) (0, 0) _ (G5.set i to).out Try.underlying22 rfl (by rw [HS'.out]; exact HZ2.out) ?_))
  refine (HP'.out _).mono ?_
  rintro e w6 ⟨rfl, hM6⟩
  have hne : w.heap.size ≠ w4.heap.size := Nat.ne_of_lt H4.lt
  have hle := hN4.size
  have H6 := (H5.put_other hne i (.int .i64 to)).later hM6
  have G6 := (G5.set i to).later hM6
  have hN6 := Made.trans (At.made hN5 hle i (.int .i64 to)) hM6
  clear H5 G5 hN5 hM6 c5 z5 hlt5 H4 hN4
  generalize w4.heap.size = b8 at *
  go_wp2_with fail
  refine (HC'.out _).mono ?_
  rintro e w7 ⟨rfl, hM7⟩
  have H7 := H6.later hM7
  have G7 := G6.later hM7
  have hN7 := Made.trans hN6 hM7
  clear H6 G6 hN6 hM7 HC' HP'
  have c7 : w7.cell? ⟨b8, i, none⟩ = some (.int .i64 to) := (G7.cell hlen').trans (by rw [HG'.out])
  have z7 := G7.free i
  have G8 : At (w7.setCell ⟨b8, i, none⟩ (.int .i64 was)) b8 22 xs := by have := G7.set i was; rw [HBK.out] at this; exact this
  have H8 := H7.put_other hne i (.int .i64 was)
  have hN8 := At.made hN7 hle i (.int .i64 was)
  clear G7 H7 hN7
  have hu3 : Try.prog.underlying 23 = some (.array 13 3) := Try.underlying23
  have hu2 : Try.prog.underlying 22 = some (.array 13 3) := Try.underlying22
  have HI3 : Hid ((Try.prog.info? 23).map (·.size) = some (xs.map (Value.int .i64)).length) := by show _ = _; rw [List.length_map, h]; exact HZ.out
  have HI2 : Hid ((Try.prog.info? 22).map (·.size) = some (xs.map (Value.int .i64)).length) := by show _ = _; rw [List.length_map, h]; exact HZ2.out
  rcases HT with rfl | rfl
  all_goals
    go_wp2_with (refine wpList_load_row rfl 22 (.tmp 8) rfl b8 (by simp [Act.eval, Act.put]) 22 (row xs) (0, 0) _ G8.out Try.underlying22 rfl (by rw [HS.out]; exact HZ2.out) ?_)
    refine (HP.out _).mono ?_
    rintro e w9 ⟨rfl, hM9⟩
    have H9 := H8.later hM9
    have G9 := G8.later hM9
    have hN9 := Made.trans hN8 hM9
    clear H8 G8 hN8 hM9 c7 z7
    go_wp2_with fail
    refine (HC.out _).mono ?_
    rintro e wa ⟨rfl, hMa⟩
    have RB := (H9.later hMa).range
    have RG := (G9.later hMa).range
    have LB := (H9.later hMa).lt
    have LG := (G9.later hMa).lt
    have hNa := Made.trans hN9 hMa
    clear H9 G9 hN9 hMa HC
    go_wp2_with fail
    have hi3 := HI3.out
    have hi2 := HI2.out
    have hE := HE.out
    refine wp_region_held_drew (S := fun w' => w'.rangeAt w.heap.size 0 (xs.map (Value.int .i64)) ∧ w'.rangeAt b8 0 (xs.map (Value.int .i64)) ∧ w.heap.size < w'.heap.size ∧ b8 < w'.heap.size ∧ Made w w') (by kernel_rfl) (S2_start RB RG LB LG hNa) (fun hHeld => ?_)
    refine wpAnyH_take (i := 0) (v := ?_) rfl (by kernel_rfl) (by kernel_rfl) (by kernel_rfl) (fun _ _ _ h => h) (Or.inl ⟨by rfl, ?_⟩) hHeld ?_
    rotate_left
    · intro w hSw
      go_simp
      try with_reducible rfl
    try simp only [List.getElem_toArray, List.getElem_cons_succ, List.getElem_cons_zero, Act.put, List.setIfInBounds_toArray, List.set_cons_zero, List.set_cons_succ]
    refine wpAnyH_take (i := 1) (v := ?_) rfl (by kernel_rfl) (by kernel_rfl) (by kernel_rfl) (fun _ _ _ h => h) (Or.inl ⟨by rfl, ?_⟩) hHeld ?_
    rotate_left
    · intro w hSw
      go_simp
      try with_reducible rfl
    try simp only [List.getElem_toArray, List.getElem_cons_succ, List.getElem_cons_zero, Act.put, List.setIfInBounds_toArray, List.set_cons_zero, List.set_cons_succ]
    refine wpAnyH_take (i := 2) (v := ?_) rfl (by kernel_rfl) (by kernel_rfl) (by kernel_rfl) (fun _ _ _ h => h) (Or.inl ⟨by rfl, ?_⟩) hHeld ?_
    rotate_left
    · intro w hSw
      go_simp
      try with_reducible rfl
    try simp only [List.getElem_toArray, List.getElem_cons_succ, List.getElem_cons_zero, Act.put, List.setIfInBounds_toArray, List.set_cons_zero, List.set_cons_succ]
    refine wpAnyH_take (i := 3) (v := .agg (row xs)) rfl (by kernel_rfl) (by kernel_rfl) (by kernel_rfl) (fun _ _ _ h => h) (yieldsIf_load_mid (by rfl) 22 (.tmp 8) rfl b8 0 rfl (xs.map (Value.int .i64)) _ (fun w hSw => hSw.2.1) hu2 rfl hi2) hHeld ?_
    try simp only [List.getElem_toArray, List.getElem_cons_succ, List.getElem_cons_zero, Act.put, List.setIfInBounds_toArray, List.set_cons_zero, List.set_cons_succ]
    refine wpAnyH_take (i := 5) (v := .agg (row xs)) rfl (by kernel_rfl) (by kernel_rfl) (by kernel_rfl) (fun _ _ _ h => h) (yieldsIf_load_mid (by rfl) 23 (.tmp 3) rfl w.heap.size 0 rfl (xs.map (Value.int .i64)) _ (fun w hSw => hSw.1) hu3 rfl hi3) hHeld ?_
    try simp only [List.getElem_toArray, List.getElem_cons_succ, List.getElem_cons_zero, Act.put, List.setIfInBounds_toArray, List.set_cons_zero, List.set_cons_succ]
    refine wpAnyH_ready (rs := [4]) (by kernel_rfl) (by simp) ?_
    refine AllReadyH.cons (i := 4) rfl (fun K hK => ?_) AllReadyH.nil
    go_simp
    refine (HP.out _).mono ?_
    rintro e wx4 ⟨rfl, hMd4⟩
    refine hK.out _ _ (S2_call hHeld hMd4) (fun hHeld => ?_)
    clear hK K
    try simp only [List.getElem_toArray, List.getElem_cons_succ, List.getElem_cons_zero, Act.put, List.setIfInBounds_toArray, List.set_cons_zero, List.set_cons_succ]
    refine wpAnyH_ready (rs := [6]) (by kernel_rfl) (by simp) ?_
    refine AllReadyH.cons (i := 6) rfl (fun K hK => ?_) AllReadyH.nil
    go_simp
    refine (HO.out _).mono ?_
    rintro e wx6 ⟨rfl, hMd6⟩
    refine hK.out _ _ (S2_call hHeld hMd6) (fun hHeld => ?_)
    clear hK K
    try simp only [List.getElem_toArray, List.getElem_cons_succ, List.getElem_cons_zero, Act.put, List.setIfInBounds_toArray, List.set_cons_zero, List.set_cons_succ]
    refine wpAnyH_take (i := 7) (v := ?_) rfl (by kernel_rfl) (by kernel_rfl) (by kernel_rfl) (fun _ _ _ h => h) (Or.inl ⟨by rfl, ?_⟩) hHeld ?_
    rotate_left
    · intro w hSw
      go_simp
      try with_reducible rfl
    try simp only [List.getElem_toArray, List.getElem_cons_succ, List.getElem_cons_zero, Act.put, List.setIfInBounds_toArray, List.set_cons_zero, List.set_cons_succ]
    refine wpAnyH_take (i := 8) (v := ?_) rfl (by kernel_rfl) (by kernel_rfl) (by kernel_rfl) (fun _ _ _ h => h) (Or.inl ⟨by rfl, ?_⟩) hHeld ?_
    rotate_left
    · intro w hSw
      go_simp
      try with_reducible rfl
    try simp only [List.getElem_toArray, List.getElem_cons_succ, List.getElem_cons_zero, Act.put, List.setIfInBounds_toArray, List.set_cons_zero, List.set_cons_succ]
    refine wpAnyH_take (i := 9) (v := ?_) rfl (by kernel_rfl) (by kernel_rfl) (by kernel_rfl) (fun _ _ _ h => h) (Or.inl ⟨by rfl, ?_⟩) hHeld ?_
    rotate_left
    · intro w hSw
      go_simp
      try with_reducible rfl
    try simp only [List.getElem_toArray, List.getElem_cons_succ, List.getElem_cons_zero, Act.put, List.setIfInBounds_toArray, List.set_cons_zero, List.set_cons_succ]
    refine wpAnyH_done (by kernel_rfl) ?_ _
    go_wp2_with fail
    go_ret

    exact ⟨rfl, S2_made hHeld⟩

theorem turned (xs : List Int) (a to : Int) (w : World) (h : xs.length = 13) (_ : ∀ z ∈ xs, (Lit.int .i64 z).wf = true) (ha : (Lit.int .u8 a).wf = true) (_ : (Lit.int .i64 to).wf = true) :
    Calls Try.prog 3 #[.agg (xs.map (Value.int .i64)).toArray, .int .u8 a, .int .i64 to] w fun e w' => e = .returned (.bool true) ∧ Made w w' := by
  change Calls Try.prog 3 #[.agg (row xs), .int .u8 a, .int .i64 to] w fun e w' => e = .returned (.bool true) ∧ Made w w'
  have hb : 0 ≤ a ∧ a < 256 := by
    simp [Lit.wf, IntKind.min, IntKind.max, IntKind.signed, IntKind.bits] at ha
    omega
  rcases chk_cases xs with ⟨_, hr⟩ | ⟨j, _, _, _, hc⟩
  · exact turned_right xs a to w h hr (a % 13).toNat (by omega) hb (by omega)
  · exact turned_wrong xs a to w h (by rw [hc]; simp)
end Go.Proofs.Ytnkcekgjppkbpaa.Law3
