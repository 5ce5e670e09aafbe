/- Package knelllaw03, walked: PlanFresh. -/
import Derived.Test.YtnkcekgjppkbpaaLawFa
import Derived.Test.YtnkcekgjppkbpaaSub
namespace Go.Proofs.Ytnkcekgjppkbpaa.Law3
open Go.RowKit Go.BigFrame Go.Proofs.Ytnkcekgjppkbpaa Go.Proofs.Ytnkcekgjppkbpaa.PlanN Go.Proofs.Ytnkcekgjppkbpaa.Plan
set_option linter.unusedVariables false
set_option linter.unusedSimpArgs false

theorem wpQuiet_load_row {P : Program} {ops : Array Oper} {C : World → Prop} {Q : Act → Prop} {a : Act} {o : Oper} {rest : List Oper} (hw : Region.wanted o (yielded ops a.tmps) = true) (ty : TypeId) (x : Operand) (ho : o.op = .load ty x)
    (g : Nat) (hx : a.eval x = .pointer (some ⟨g, 0, none⟩)) (t : TypeId) (cs : Array Value) (fr : Nat × Nat) (d : TypeDesc) (hg : ∀ w, C w → w.heap[g]? = some (.cells cs t fr))
    (hu : P.underlying ty = some d) (hd : (match d with | .struct _ | .array _ _ => true | _ => false) = true) (hi : (P.info? ty).map (·.size) = some cs.size)
    (h : wpQuiet P ops C Q rest (a.put o.dst (.agg cs))) : wpQuiet P ops C Q (o :: rest) a :=
  wpQuiet_want hw fun K hK => ⟨.agg cs, fun w hw' => by
    have hr := run_loadVar_row (P := P) w g t ty cs fr d (hg w hw') hu hd hi
    unfold Oper.quietAt
    simp [execOp, ho, hx, Instr.loadAt, Instr.sureAddr, hr, Oper.quietUpon, Result.andThen], hK _ h⟩

theorem cfg_cell {wr : World} {B : Nat} {xs : List Int} (h : wr.heap[B]? = some (.cells (row xs) 23 (0, 0))) (hl : xs.length = 13) (j : Nat) (hj : j < 13) : wr.cell? ⟨B, j, none⟩ = some (.int .i64 (xs.getD j 0)) := by
  rw [cell_of_row _ _ _ _ _ _ h]
  unfold row
  simp [List.getD, hl ▸ hj]
theorem cfg_at {w wr : World} {B g : Nat} {o : Obj} (h : w.heap[B]? = some o) (hb : Fresh.But g w wr) (hne : B ≠ g) : wr.heap[B]? = some o := hb.at hne h
theorem rowu_at {wr : World} {g i : Nat} {ys : List Int} {v : Int} (h : wr.heap[g]? = some (.cells (Cell.row ys) 43 (0, 0))) (hi : ys[i]? = some v) : wr.cell? ⟨g, i, none⟩ = some (.int .u64 v) := by
  rw [cell_of_row _ _ _ _ _ _ h]
  unfold Cell.row
  simp [hi]
theorem rowu_set {wr : World} {g : Nat} {ys : List Int} (h : wr.heap[g]? = some (.cells (Cell.row ys) 43 (0, 0))) (i : Nat) (v : Int) : (wr.setCell ⟨g, i, none⟩ (.int .u64 v)).heap[g]? = some (.cells (Cell.row (ys.set i v)) 43 (0, 0)) := by
  rw [setCell_eq_setRow _ _ _ _ _ _ _ h, heap_setRow_same _ _ _ _ _ _ h, Cell.row_put]

theorem lv_cases {k N : Nat} {lv : Int} (hk : k < N) (hn : N ≤ 10000) (h : lv = if k + 1 = N then 0 else (k : Int) + 2) : lv = 0 ∧ k + 1 = N ∨ lv = (k : Int) + 2 ∧ k + 1 ≠ N := by
  by_cases e : k + 1 = N
  · exact Or.inl ⟨by rw [h, if_pos e], e⟩
  · exact Or.inr ⟨by rw [h, if_neg e], e⟩

set_option maxRecDepth 100000 in
set_option maxHeartbeats 1000000 in
theorem fresh_wrong (xs : List Int) (w : World) (h : xs.length = 13) (hr : ¬ (chk xs).2 = 0) :
    Calls Try.prog 12 #[.agg (row xs)] w fun e w' => e = .returned (.bool true) ∧ Made w w' := by
  have HR := Lib.hid (Right_c xs h false (by simp [hr]))
  have HZ := Lib.hid (show (Try.prog.info? 23).map (·.size) = some 13 by kernel_rfl)
  have HS := Lib.hid (row_size h)
  change Hid (∀ w : World, Calls Try.prog 14 #[.agg (row xs)] w _) at HR
  go_enter Try.func12, Try.ntmps12
  go_wp2_with fail
  refine (speaks_c _).mono ?_
  rintro e w1 ⟨rfl, hM1⟩
  have H1 := (at_start w xs 23).later hM1
  have hM := Made.trans ((Made.refl w).alloc (Nat.le_refl _) _) hM1
  clear hM1
  go_wp2_with (refine wpList_load_row_g (by simp [Region.wanted, yielded, Act.put]) 23 (.tmp 1) rfl w.heap.size (by simp [Act.eval, Act.put]) 23 (row xs) (0, 0) _ H1.out Try.underlying23 rfl (by rw [HS.out]; exact HZ.out) ?_)
  refine (HR.out _).mono ?_
  rintro e w2 ⟨rfl, hM2⟩
  go_wp2_with fail
  refine (speaks_c _).mono ?_
  rintro e w3 ⟨rfl, hM3⟩
  go_wp2_with fail
  go_ret
  exact ⟨rfl, Made.trans hM (Made.trans hM2 hM3)⟩

set_option maxRecDepth 100000 in
set_option maxHeartbeats 4000000 in
theorem fresh_right (xs : List Int) (w : World) (h : xs.length = 13) (hr : Rgt xs) :
    Calls Try.prog 12 #[.agg (row xs)] w fun e w' => e = .returned (.bool true) ∧ Made w w' := by
  obtain ⟨W, L, S, N', T', C, hn⟩ := nats h hr
  obtain ⟨Z, hZ⟩ : ∃ Z, Z = 3 + W * (3 + L * (1 + S)) + 4 * N' + 3 * T' + C := ⟨_, rfl⟩
  have HR := Lib.hid (Right_c xs h true (by rw [chk_right hr]; rfl))
  change Hid (∀ w : World, Calls Try.prog 14 #[.agg (row xs)] w _) at HR
  have HO := Lib.hid (OfC_c xs h)
  change Hid (∀ w : World, Calls Try.prog 16 #[.agg (row xs)] w fun e w' => e = .returned (.agg (row xs)) ∧ Made w w') at HO
  have HN := Lib.hid (New_yes xs h hr)
  change Hid (∀ w : World, Calls Try.prog 20 #[.agg (row xs)] w fun e w' => ∃ p, e = .returned (.tuple #[.pointer (some ⟨p, 0, none⟩), .int .i64 0]) ∧ IsPlan w' p xs ∧ w.heap.size ≤ p ∧ Made w w') at HN
  have HSZ : Hid (∀ w : World, Calls Try.prog 23 #[.agg (row xs)] w fun e w' => e = .returned (.int .i64 (Z : Int)) ∧ Made w w') := fun w => by
    have := RSize_c xs h hr w
    rw [hn.size, ← hZ] at this
    exact this
  have hsz : size xs = (Z : Int) := by rw [hn.size, ← hZ]
  have HFF : Hid (Z ≤ 20000 → ∃ N T v F st ln lt R0 ZN ZT, FF xs Z N T v F st ln lt R0 ZN ZT) := fun h2 => ff h hr hsz h2
  have hZ2 : Z ≤ 75000 := by have := (rng hr).sz; rw [hsz] at this; omega
  have HZ := Lib.hid (show (Try.prog.info? 23).map (·.size) = some 13 by kernel_rfl)
  have HS := Lib.hid (row_size h)
  have HLEN := Lib.hid h
  clear h hr hZ hn hsz
  go_enter Try.func12, Try.ntmps12
  go_wp2_with fail
  refine (speaks_c _).mono ?_
  rintro e w1 ⟨rfl, hM1⟩
  have H1 := (at_start w xs 23).later hM1
  have hN1 := Made.trans ((Made.refl w).alloc (Nat.le_refl _) _) hM1
  clear hM1
  go_wp2_with (refine wpList_load_row_g (by simp [Region.wanted, yielded, Act.put]) 23 (.tmp 1) rfl w.heap.size (by simp [Act.eval, Act.put]) 23 (row xs) (0, 0) _ H1.out Try.underlying23 rfl (by rw [HS.out]; exact HZ.out) ?_)
  refine (HR.out _).mono ?_
  rintro e w2 ⟨rfl, hM2⟩
  have H2 := H1.later hM2
  have hN2 := Made.trans hN1 hM2
  clear H1 hN1 hM2 HR
  go_wp2_with (refine wpList_load_row_g (by simp [Region.wanted, yielded, Act.put]) 23 (.tmp 1) rfl w.heap.size (by simp [Act.eval, Act.put]) 23 (row xs) (0, 0) _ H2.out Try.underlying23 rfl (by rw [HS.out]; exact HZ.out) ?_)
  refine (HSZ.out _).mono ?_
  rintro e w3 ⟨rfl, hM3⟩
  have H3 := H2.later hM3
  have hN3 := Made.trans hN2 hM3
  clear H2 hN2 hM3
  by_cases hbig : 20000 < Z
  · have hb : (20000 : Int) < (Z : Int) := by omega
    go_wp2_with fail
    refine (speaks_c _).mono ?_
    rintro e w4 ⟨rfl, hM4⟩
    go_wp2_with fail
    go_ret
    exact ⟨rfl, Made.trans hN3 hM4⟩
  · have hb : ¬ (20000 : Int) < (Z : Int) := by omega
    obtain ⟨N, T, v, F, st, ln, lt, R0, ZN, ZT, hff⟩ := HFF.out (by omega)
    have HF := Lib.hid hff
    clear hff HFF
    go_wp2_with (refine wpList_load_row rfl 23 (.tmp 1) rfl w.heap.size (by simp [Act.eval, Act.put]) 23 (row xs) (0, 0) _ H3.out Try.underlying23 rfl (by rw [HS.out]; exact HZ.out) ?_)
    refine (HO.out _).mono ?_
    rintro e w4 ⟨rfl, hM4⟩
    have H4 := H3.later hM4
    have hN4 := Made.trans hN3 hM4
    clear H3 hN3 hM4 HO
    go_wp2_with fail
    refine (HN.out _).mono ?_
    rintro e w5 ⟨p, rfl, hp, _, hM5⟩
    have H5 := H4.later hM5
    have hN5 := Made.trans hN4 hM5
    have HP5 := Lib.hid hp
    clear H4 hN4 hM5 HN hp
    go_wp2_with fail
    refine (HF.out.fresh p _ HP5.out).mono ?_
    rintro e w6 ⟨a, b, rfl, hA6, ha6, hb6, hM6⟩
    have H6 := H5.later hM6
    have HP6 := Lib.hid (isplan_later HP5.out hM6)
    have hN6 := Made.trans hN5 hM6
    have HA6 := Lib.hid hA6
    have hsz5 := hN5.size
    have hane : w.heap.size < a := by have := (Array.getElem?_eq_some_iff.1 H5.out).1; omega
    have hbne : w.heap.size < b := by have := (Array.getElem?_eq_some_iff.1 H5.out).1; omega
    clear H5 hN5 hM6 HP5 ha6 hb6 hA6 hsz5
    obtain ⟨OA, hOA⟩ : ∃ o, o = Obj.cells #[.slice (some ⟨b, 0, none⟩) R0.length R0.length, .int .i64 0] 99 (0, 0) := ⟨_, rfl⟩
    obtain ⟨OB, hOB⟩ : ∃ o, o = Obj.cells (Cell.row R0) 108 (0, 0) := ⟨_, rfl⟩
    obtain ⟨OC, hOC⟩ : ∃ o, o = Obj.cells (row xs) 23 (0, 0) := ⟨_, rfl⟩
    have hS0 : (Kept w6 [(w.heap.size, OC), (a, OA), (b, OB)]) w6.drew := (Kept.cons (hOC ▸ H6.out) (Kept.cons (hOA ▸ HA6.out.ha) (Kept.cons (hOB ▸ HA6.out.hb) (Kept.nil (Made.refl _))))).drew
    have HCA : Hid (∀ m : Cls (Kept w6 [(w.heap.size, OC), (a, OA), (b, OB)]), Cell.Arena m.val a b 0 R0) := fun m => ⟨(m.ok.at 1 rfl).trans (by rw [hOA]), (m.ok.at 2 rfl).trans (by rw [hOB]), HA6.out.ne, by omega, by omega⟩
    have HOC := Lib.hid hOC
    clear hOA hOB hOC
    haveI : Nonempty (Cls (Kept w6 [(w.heap.size, OC), (a, OA), (b, OB)])) := ⟨⟨_, hS0⟩⟩
    have HCC : Hid (∀ w' : World, (∃ m : Cls (Kept w6 [(w.heap.size, OC), (a, OA), (b, OB)]), w' = m.val) → w'.heap[w.heap.size]? = some (Obj.cells (row xs) 23 (0, 0))) := by rintro _ ⟨m, rfl⟩; rw [← HOC.out]; exact m.ok.at 0 rfl
    have HCN : Hid (∀ m : Cls (Kept w6 [(w.heap.size, OC), (a, OA), (b, OB)]), Calls Try.prog 31 #[.pointer (some ⟨a, 0, none⟩)] m.val fun e w' => e = .returned (.int .i64 0) ∧ Made m.val w') := fun m => (Cell.Count_c (HCA.out m)).mono fun e w' ⟨h1, h2⟩ => ⟨h1, made_of_same h2⟩
    have HCL : Hid (∀ m : Cls (Kept w6 [(w.heap.size, OC), (a, OA), (b, OB)]), Calls Try.prog 35 #[.pointer (some ⟨a, 0, none⟩)] m.val fun e w' => e = .returned (.int .i64 (Z : Int)) ∧ Made m.val w') := fun m => by
      have := Cell.Len_c (HCA.out m) (by rw [HF.out.len0]; omega)
      rw [HF.out.len0] at this
      exact this.mono fun e w' ⟨h1, h2⟩ => ⟨h1, made_of_same h2⟩
    go_wp2_with fail
    refine wp_region_sub (Kept w6 [(w.heap.size, OC), (a, OA), (b, OB)]) (by kernel_rfl) (by kernel_rfl) hS0 ?_
    repeat (first | (refine wpQuiet_load_row (by simp [Region.wanted, yielded, Act.put]) 23 (.tmp 1) rfl w.heap.size (by simp [Act.eval, Act.put]) 23 (row xs) (0, 0) _ HCC.out Try.underlying23 rfl (by rw [HS.out]; exact HZ.out) ?_; simp only [Act.put, List.setIfInBounds_toArray, List.set_cons_succ, List.set_cons_zero]) | go_big_quiet_step (first | (go_at_call 31; exact Calls.sub (HCN.out _) (fun _ h k => h.later k)) | (go_at_call 35; exact Calls.sub (HCL.out _) (fun _ h k => h.later k)) | (go_at_call 23; exact Calls.sub (HSZ.out _) (fun _ h k => h.later k))))
    refine wpQuiet_nil ?_
    rintro w7 ⟨m7, hm7⟩
    have hS7 : Kept w6 [(w.heap.size, OC), (a, OA), (b, OB)] w7 := hm7 ▸ m7.ok
    clear hm7 m7
    have H7 : At w7 w.heap.size 23 xs := H6.later hS7.md
    have HP7 := Lib.hid (isplan_later HP6.out hS7.md)
    have hA7 := HA6.out.later hS7.md
    have hN7 := Made.trans hN6 hS7.md
    clear hS7 hS0 HCC HCN HCL HCA HOC this H6 HP6 HA6 hN6 HSZ
    go_wp2_with fail
    have HAL := Lib.hid (Cell.All_c hA7 (by rw [HF.out.len0]; omega))
    rw [HF.out.len0] at HAL
    refine HAL.out.mono ?_
    rintro e w8 ⟨rfl, hg8, hM8⟩
    have HG8 : Hid (w8.heap[w7.heap.size]? = some (.cells (Cell.row (ZN 0)) 43 (0, 0))) := by rw [HF.out.n0]; exact hg8
    have H8 := H7.later hM8
    have HP8 := Lib.hid (isplan_later HP7.out hM8)
    have HA8 := Lib.hid (hA7.later hM8)
    have hN8 : Below w.heap.size w w8 := Made.trans hN7 hM8
    have hwg : w.heap.size ≠ w7.heap.size := by have := (Array.getElem?_eq_some_iff.1 H7.out).1; omega
    have hpg : p ≠ w7.heap.size := by have := (Array.getElem?_eq_some_iff.1 HP7.out).1; omega
    have hag : a ≠ w7.heap.size := by have := (Array.getElem?_eq_some_iff.1 hA7.ha).1; omega
    have hbg : b ≠ w7.heap.size := by have := (Array.getElem?_eq_some_iff.1 hA7.hb).1; omega
    have hwl : w.heap.size ≤ w7.heap.size := hN7.size
    clear H7 HP7 hA7 hN7 hM8 hg8 HAL
    generalize w7.heap.size = g at *
    have cn : w8.cell? ⟨w.heap.size, 3, none⟩ = some (.int .i64 (N : Int)) := by rw [← HF.out.cn]; exact cfg_cell H8.out HLEN.out 3 (by omega)
    have hn1 := HF.out.n1
    have hn2 := HF.out.n2
    have HNB := Lib.hid hN8
    clear hN8
    go_wp2_with fail
    go_loopw [59] (fun i wr => ∃ k : Nat, k ≤ N ∧ i = .int .i64 k ∧ Hid (wr.heap[g]? = some (.cells (Cell.row (ZN k)) 43 (0, 0))) ∧ Hid (Fresh.But g w8 wr)) (fun i _ => (N - intOf i).toNat)
    case atStart => exact ⟨0, by omega, rfl, HG8, Fresh.But.of_made (Made.refl _)⟩
    case round =>
      obtain ⟨k, hk, rfl, HGr, HBr⟩ := hrel
      by_cases hkN : k < N
      · obtain ⟨hs1, hl1, hsl, hs2, hl2, hnx⟩ := HF.out.nst k hkN
        have HNX := Lib.hid hnx
        have hlen := HF.out.lenN k
        have HLN := Lib.hid hlen
        have HCSr : Hid (wr.heap[w.heap.size]? = some (.cells (row xs) 23 (0, 0))) := cfg_at H8.out HBr.out hwg
        have HPr : Hid (IsPlan wr p xs) := HBr.out.at hpg HP8.out
        have cn : wr.cell? ⟨w.heap.size, 3, none⟩ = some (.int .i64 (N : Int)) := by rw [← HF.out.cn]; exact cfg_cell HCSr.out HLEN.out 3 (by omega)
        have HCF : Hid (∀ w' : World, Made wr w' → w'.cell? ⟨w.heap.size, 6, none⟩ = some (.int .i64 F)) := fun w' m => by rw [← HF.out.cf]; exact cfg_cell ((m.block _ (Array.getElem?_eq_some_iff.1 HCSr.out).1).trans HCSr.out) HLEN.out 6 (by omega)
        have HGM : Hid (∀ w' : World, Made wr w' → w'.heap[g]? = some (.cells (Cell.row (ZN k)) 43 (0, 0))) := fun w' m => (m.block _ (Array.getElem?_eq_some_iff.1 HGr.out).1).trans HGr.out
        have HSc : Hid (∀ w' : World, Made wr w' → Calls Try.prog 43 #[.pointer (some ⟨p, 0, none⟩), .int .i64 (k : Int)] w' fun e w'' => e = .returned (.int .i64 (st k : Int)) ∧ Made w' w'') := fun w' m => HF.out.state p k w' (isplan_later HPr.out m) hkN
        have HLc : Hid (∀ w' : World, Made wr w' → Calls Try.prog 46 #[.pointer (some ⟨p, 0, none⟩), .int .i64 (k : Int)] w' fun e w'' => e = .returned (.int .i64 (ln k : Int)) ∧ Made w' w'') := fun w' m => HF.out.link p k w' (isplan_later HPr.out m) hkN
        obtain ⟨lv, hlv⟩ : ∃ lv : Int, lv = if k + 1 = N then 0 else (k : Int) + 2 := ⟨_, rfl⟩
        rw [← hlv] at hl2
        have HS2 := Lib.hid hs2
        have HL2 := Lib.hid hl2
        have HLV := Lib.hid hlv
        clear hs2 hl2 hlv hnx hlen
        obtain ⟨s, hsE⟩ : ∃ s, s = st k := ⟨_, rfl⟩
        obtain ⟨l, hlE⟩ : ∃ l, l = ln k := ⟨_, rfl⟩
        rw [← hsE] at hs1 hsl HS2 HSc HNX
        rw [← hlE] at hl1 hsl HL2 HLc HNX
        clear hsE hlE
        have hs1' : (s : Int) < (Z : Int) := by omega
        have hl1' : (l : Int) < (Z : Int) := by omega
        have HLVs := Lib.hid (lv_cases hkN (by omega) HLV.out)
        clear HLV
        have HSm : Hid (∀ m : Cls (Kept wr [(w.heap.size, .cells (row xs) 23 (0, 0)), (g, .cells (Cell.row (ZN k)) 43 (0, 0))]), Calls Try.prog 43 #[.pointer (some ⟨p, 0, none⟩), .int .i64 (k : Int)] m.val fun e w'' => e = .returned (.int .i64 (s : Int)) ∧ Made m.val w'') := fun m => HSc.out _ m.ok.md
        have HLm : Hid (∀ m : Cls (Kept wr [(w.heap.size, .cells (row xs) 23 (0, 0)), (g, .cells (Cell.row (ZN k)) 43 (0, 0))]), Calls Try.prog 46 #[.pointer (some ⟨p, 0, none⟩), .int .i64 (k : Int)] m.val fun e w'' => e = .returned (.int .i64 (l : Int)) ∧ Made m.val w'') := fun m => HLc.out _ m.ok.md
        have hS0 : (Kept wr [(w.heap.size, .cells (row xs) 23 (0, 0)), (g, .cells (Cell.row (ZN k)) 43 (0, 0))]) wr.drew := (Kept.cons HCSr.out (Kept.cons HGr.out (Kept.nil (Made.refl _)))).drew
        haveI : Nonempty (Cls (Kept wr [(w.heap.size, .cells (row xs) 23 (0, 0)), (g, .cells (Cell.row (ZN k)) 43 (0, 0))])) := ⟨⟨_, hS0⟩⟩
        have H6 : Hid (∀ m : Cls (Kept wr [(w.heap.size, .cells (row xs) 23 (0, 0)), (g, .cells (Cell.row (ZN k)) 43 (0, 0))]), m.val.cell? ⟨w.heap.size, 6, none⟩ = some (.int .i64 F)) := fun m => HCF.out _ m.ok.md
        have HSs : Hid (∀ m : Cls (Kept wr [(w.heap.size, .cells (row xs) 23 (0, 0)), (g, .cells (Cell.row (ZN k)) 43 (0, 0))]), m.val.cell? ⟨g, s, none⟩ = some (.int .u64 (v : Int))) := fun m => rowu_at (m.ok.at 1 rfl) HS2.out
        have HSl : Hid (∀ m : Cls (Kept wr [(w.heap.size, .cells (row xs) 23 (0, 0)), (g, .cells (Cell.row (ZN k)) 43 (0, 0))]), m.val.cell? ⟨g, l, none⟩ = some (.int .u64 lv)) := fun m => rowu_at (m.ok.at 1 rfl) HL2.out
        have HST : Hid (∀ w3 : World, Made wr w3 → w3.cell? ⟨g, s, none⟩ = some (.int .u64 (v : Int)) ∧ w3.frozen? ⟨g, s, none⟩ = false ∧ (w3.setCell ⟨g, s, none⟩ (.int .u64 0)).cell? ⟨g, l, none⟩ = some (.int .u64 lv) ∧ (w3.setCell ⟨g, s, none⟩ (.int .u64 0)).frozen? ⟨g, l, none⟩ = false
            ∧ Hid (((w3.setCell ⟨g, s, none⟩ (.int .u64 0)).setCell ⟨g, l, none⟩ (.int .u64 0)).heap[g]? = some (.cells (Cell.row (ZN (k + 1))) 43 (0, 0))) ∧ Hid (Fresh.But g w8 ((w3.setCell ⟨g, s, none⟩ (.int .u64 0)).setCell ⟨g, l, none⟩ (.int .u64 0)))) := fun w3 m => by
          have hg := HGM.out w3 m
          have hg2 := rowu_set hg s 0
          have hg3 := rowu_set hg2 l 0
          refine ⟨rowu_at hg HS2.out, frozen_of_row _ _ _ _ _ hg, rowu_at hg2 ?_, frozen_of_row _ _ _ _ _ hg2, ?_, ?_⟩
          · rw [List.getElem?_set_ne hsl]; exact HL2.out
          · rw [HNX.out]; exact hg3
          · exact ((HBr.out.trans (Fresh.But.of_made m)).set _ _).set _ _
        clear HS2 HL2 HNX HGM HCF HCSr HGr HBr HPr
        rcases HLVs.out with ⟨rfl, hkE⟩ | ⟨rfl, hkE⟩
        · have kk : (N : Int) - 1 = (k : Int) := by omega
          clear hkE HLVs
          have kn : (k : Int) < (N : Int) := by omega
          go_wp2_with fail
          have f6 := H6.out
          have fs := HSs.out
          have fl := HSl.out
          refine wp_region_sub (Kept wr [(w.heap.size, .cells (row xs) 23 (0, 0)), (g, .cells (Cell.row (ZN k)) 43 (0, 0))]) (by kernel_rfl) (by kernel_rfl) hS0 ?_
          repeat (go_big_quiet_step (first | (go_at_call 43; exact Calls.sub (HSm.out _) (fun _ h k => h.later k)) | (go_at_call 46; exact Calls.sub (HLm.out _) (fun _ h k => h.later k)) | (go_at_call 56; exact Calls.sub (HF.out.stateOf _) (fun _ h k => h.later k))))
          refine wpQuiet_nil ?_
          rintro w9 ⟨m9, hm9⟩
          have hM9 : Made wr w9 := hm9 ▸ m9.ok.md
          clear hm9 m9 f6 fs fl this hS0 H6 HSs HSl HSm HLm
          go_wp2_with fail
          refine (HSc.out _ hM9).mono ?_
          rintro e w10 ⟨rfl, hM10⟩
          have hM10 := Made.trans hM9 hM10
          clear hM9
          go_wp2_with fail
          refine (HLc.out _ hM10).mono ?_
          rintro e w11 ⟨rfl, hM11⟩
          have hM11 := Made.trans hM10 hM11
          obtain ⟨q1, q2, q3, q4, q5, q6⟩ := HST.out _ hM11
          clear hM10 hM11 HST HSc HLc
          go_wp2_with fail
          go_roundw
          case rel => exact ⟨k + 1, by omega, by go_num, q5, q6⟩
          case measure => simp [intOf]; omega
        · have kk : ¬ ((k : Int) = (N : Int) - 1) := by omega
          clear hkE HLVs
          have kn : (k : Int) < (N : Int) := by omega
          go_wp2_with fail
          have f6 := H6.out
          have fs := HSs.out
          have fl := HSl.out
          refine wp_region_sub (Kept wr [(w.heap.size, .cells (row xs) 23 (0, 0)), (g, .cells (Cell.row (ZN k)) 43 (0, 0))]) (by kernel_rfl) (by kernel_rfl) hS0 ?_
          repeat (go_big_quiet_step (first | (go_at_call 43; exact Calls.sub (HSm.out _) (fun _ h k => h.later k)) | (go_at_call 46; exact Calls.sub (HLm.out _) (fun _ h k => h.later k)) | (go_at_call 56; exact Calls.sub (HF.out.stateOf _) (fun _ h k => h.later k))))
          refine wpQuiet_nil ?_
          rintro w9 ⟨m9, hm9⟩
          have hM9 : Made wr w9 := hm9 ▸ m9.ok.md
          clear hm9 m9 f6 fs fl this hS0 H6 HSs HSl HSm HLm
          go_wp2_with fail
          refine (HSc.out _ hM9).mono ?_
          rintro e w10 ⟨rfl, hM10⟩
          have hM10 := Made.trans hM9 hM10
          clear hM9
          go_wp2_with fail
          refine (HLc.out _ hM10).mono ?_
          rintro e w11 ⟨rfl, hM11⟩
          have hM11 := Made.trans hM10 hM11
          obtain ⟨q1, q2, q3, q4, q5, q6⟩ := HST.out _ hM11
          clear hM10 hM11 HST HSc HLc
          go_wp2_with fail
          go_roundw
          case rel => exact ⟨k + 1, by omega, by go_num, q5, q6⟩
          case measure => simp [intOf]; omega
      · obtain rfl : N = k := by omega
        clear cn HG8
        have HCSr : Hid (wr.heap[w.heap.size]? = some (.cells (row xs) 23 (0, 0))) := cfg_at H8.out HBr.out hwg
        have ct : wr.cell? ⟨w.heap.size, 4, none⟩ = some (.int .i64 (T : Int)) := by rw [← HF.out.ct]; exact cfg_cell HCSr.out HLEN.out 4 (by omega)
        have HGT : Hid (wr.heap[g]? = some (.cells (Cell.row (ZT 0)) 43 (0, 0))) := by rw [HF.out.t0]; exact HGr.out
        have ht1 := HF.out.t1
        have ht2 := HF.out.t2
        have HBr1 := HBr
        clear HGr HBr
        go_wp2_with fail
        go_loopw [104] (fun i wr => ∃ k : Nat, k ≤ T ∧ i = .int .i64 k ∧ Hid (wr.heap[g]? = some (.cells (Cell.row (ZT k)) 43 (0, 0))) ∧ Hid (Fresh.But g w8 wr)) (fun i _ => (T - intOf i).toNat)
        case atStart => exact ⟨0, by omega, rfl, HGT, HBr1⟩
        case round =>
          clear HBr1 HGT ct HCSr
          obtain ⟨k, hk, rfl, HGr, HBr⟩ := hrel
          by_cases hkT : k < T
          · obtain ⟨hl1, hl2, hnx⟩ := HF.out.nt k hkT
            have HNX := Lib.hid hnx
            have HCSr : Hid (wr.heap[w.heap.size]? = some (.cells (row xs) 23 (0, 0))) := cfg_at H8.out HBr.out hwg
            have HPr : Hid (IsPlan wr p xs) := HBr.out.at hpg HP8.out
            have ct : wr.cell? ⟨w.heap.size, 4, none⟩ = some (.int .i64 (T : Int)) := by rw [← HF.out.ct]; exact cfg_cell HCSr.out HLEN.out 4 (by omega)
            have HGM : Hid (∀ w' : World, Made wr w' → w'.heap[g]? = some (.cells (Cell.row (ZT k)) 43 (0, 0))) := fun w' m => (m.block _ (Array.getElem?_eq_some_iff.1 HGr.out).1).trans HGr.out
            have HLc : Hid (∀ w' : World, Made wr w' → Calls Try.prog 49 #[.pointer (some ⟨p, 0, none⟩), .int .i64 (k : Int)] w' fun e w'' => e = .returned (.int .i64 (lt k : Int)) ∧ Made w' w'') := fun w' m => HF.out.tlink p k w' (isplan_later HPr.out m) hkT
            obtain ⟨lv, hlv⟩ : ∃ lv : Int, lv = if k + 1 = T then 0 else (k : Int) + 2 := ⟨_, rfl⟩
            rw [← hlv] at hl2
            have HL2 := Lib.hid hl2
            have HLVs := Lib.hid (lv_cases hkT (by omega) hlv)
            clear hl2 hlv hnx
            obtain ⟨l, hlE⟩ : ∃ l, l = lt k := ⟨_, rfl⟩
            rw [← hlE] at hl1 HL2 HLc HNX
            clear hlE
            have hl1' : (l : Int) < (Z : Int) := by omega
            have HSl : Hid (∀ w3 : World, Made wr w3 → w3.cell? ⟨g, l, none⟩ = some (.int .u64 lv) ∧ w3.frozen? ⟨g, l, none⟩ = false ∧ Hid ((w3.setCell ⟨g, l, none⟩ (.int .u64 0)).heap[g]? = some (.cells (Cell.row (ZT (k + 1))) 43 (0, 0))) ∧ Hid (Fresh.But g w8 (w3.setCell ⟨g, l, none⟩ (.int .u64 0)))) := fun w3 m => by
              have hg := HGM.out w3 m
              have hg2 := rowu_set hg l 0
              refine ⟨rowu_at hg HL2.out, frozen_of_row _ _ _ _ _ hg, ?_, (HBr.out.trans (Fresh.But.of_made m)).set _ _⟩
              rw [HNX.out]; exact hg2
            clear HL2 HNX HGM HCSr HGr HBr HPr
            rcases HLVs.out with ⟨rfl, hkE⟩ | ⟨rfl, hkE⟩
            · have kk : (T : Int) - 1 = (k : Int) := by omega
              clear hkE HLVs
              have kn : (k : Int) < (T : Int) := by omega
              go_wp2_with fail
              refine (HLc.out _ (Made.refl _)).mono ?_
              rintro e w9 ⟨rfl, hM9⟩
              obtain ⟨q1, q2, q3, q4⟩ := HSl.out _ hM9
              clear q2 q3 q4
              go_wp2_with fail
              refine (HLc.out _ hM9).mono ?_
              rintro e w10 ⟨rfl, hM10⟩
              obtain ⟨r1, r2, r3, r4⟩ := HSl.out _ (Made.trans hM9 hM10)
              clear hM9 hM10 HSl HLc q1
              go_wp2_with fail
              go_roundw
              case rel => exact ⟨k + 1, by omega, by go_num, r3, r4⟩
              case measure => simp [intOf]; omega
            · have kk : ¬ ((k : Int) = (T : Int) - 1) := by omega
              clear hkE HLVs
              have kn : (k : Int) < (T : Int) := by omega
              go_wp2_with fail
              refine (HLc.out _ (Made.refl _)).mono ?_
              rintro e w9 ⟨rfl, hM9⟩
              obtain ⟨q1, q2, q3, q4⟩ := HSl.out _ hM9
              clear q2 q3 q4
              go_wp2_with fail
              refine (HLc.out _ hM9).mono ?_
              rintro e w10 ⟨rfl, hM10⟩
              obtain ⟨r1, r2, r3, r4⟩ := HSl.out _ (Made.trans hM9 hM10)
              clear hM9 hM10 HSl HLc q1
              go_wp2_with fail
              go_roundw
              case rel => exact ⟨k + 1, by omega, by go_num, r3, r4⟩
              case measure => simp [intOf]; omega
          · obtain rfl : T = k := by omega
            have HPr : Hid (IsPlan wr p xs) := HBr.out.at hpg HP8.out
            have hz1 := HF.out.z1
            have z1' : (1 : Int) < (Z : Int) := by omega
            have z2' : (2 : Int) < (Z : Int) := by omega
            have HLT := HF.out.lenT T
            have HH : Hid (∀ w3 : World, Made wr w3 → w3.cell? ⟨g, 1, none⟩ = some (.int .u64 1) ∧ w3.cell? ⟨g, 2, none⟩ = some (.int .u64 1) ∧ w3.frozen? ⟨g, 1, none⟩ = false ∧ (w3.setCell ⟨g, 1, none⟩ (.int .u64 0)).cell? ⟨g, 2, none⟩ = some (.int .u64 1) ∧ (w3.setCell ⟨g, 1, none⟩ (.int .u64 0)).frozen? ⟨g, 2, none⟩ = false
                ∧ Hid (((w3.setCell ⟨g, 1, none⟩ (.int .u64 0)).setCell ⟨g, 2, none⟩ (.int .u64 0)).heap[g]? = some (.cells (Cell.row (((ZT T).set 1 0).set 2 0)) 43 (0, 0))) ∧ Hid (Fresh.But g w8 ((w3.setCell ⟨g, 1, none⟩ (.int .u64 0)).setCell ⟨g, 2, none⟩ (.int .u64 0)))) := fun w3 m => by
              have hg := (m.block _ (Array.getElem?_eq_some_iff.1 HGr.out).1).trans HGr.out
              have hg2 := rowu_set hg 1 0
              have hg3 := rowu_set hg2 2 0
              refine ⟨rowu_at hg HF.out.one, rowu_at hg HF.out.two, frozen_of_row _ _ _ _ _ hg, rowu_at hg2 ?_, frozen_of_row _ _ _ _ _ hg2, hg3, ((HBr.out.trans (Fresh.But.of_made m)).set _ _).set _ _⟩
              rw [List.getElem?_set_ne (by omega)]; exact HF.out.two
            clear HGr HBr HPr HLT hz1
            obtain ⟨p1, _, _, _, _, _, _⟩ := HH.out _ (Made.refl _)
            go_wp2_with fail
            refine (PNodes_c _ _).mono ?_
            rintro e w' ⟨rfl, rfl⟩
            go_wp2_with fail
            refine (HF.out.headOf _).mono ?_
            rintro e w9 ⟨rfl, hM9⟩
            obtain ⟨_, p2, _, _, _, _, _⟩ := HH.out _ hM9
            clear p1
            go_wp2_with fail
            refine (PTickets_c _ _).mono ?_
            rintro e w' ⟨rfl, rfl⟩
            go_wp2_with fail
            refine (HF.out.headOf _).mono ?_
            rintro e w10 ⟨rfl, hM10⟩
            obtain ⟨_, _, q3, q4, q5, q6, q7⟩ := HH.out _ (Made.trans hM9 hM10)
            obtain ⟨q1, q2, _, _, _, _, _⟩ := HH.out _ (Made.trans hM9 hM10)
            clear hM9 hM10 HH p2
            go_wp2_with fail
            refine (PNodes_c _ _).mono ?_
            rintro e w' ⟨rfl, rfl⟩
            go_wp2_with fail
            refine (PTickets_c _ _).mono ?_
            rintro e w' ⟨rfl, rfl⟩
            go_wp2_with fail
            clear q1 q2 q3 q4 q5
            generalize (w10.setCell ⟨g, 1, none⟩ (.int .u64 0)).setCell ⟨g, 2, none⟩ (.int .u64 0) = wq at *
            have HQ6 := Lib.hid q6
            have HQ7 := Lib.hid q7
            clear q6 q7
            go_loopw [157] (fun i wr => ∃ k : Nat, k ≤ Z ∧ i = .int .i64 k ∧ wr = wq) (fun i _ => (Z - intOf i).toNat)
            case atStart => exact ⟨0, by omega, rfl, rfl⟩
            case round =>
              obtain ⟨k, hk, rfl, rfl⟩ := hrel
              by_cases hkZ : k < Z
              · have c0 := rowu_at HQ6.out.out (HF.out.all k hkZ)
                have k0 : (k : Int) < (Z : Int) := by omega
                go_wp2_with fail
                go_roundw
                case rel => exact ⟨k + 1, by omega, by go_num, trivial⟩
                case measure => simp [intOf]; omega
              · obtain rfl : Z = k := by omega
                have HPr : Hid (IsPlan wr p xs) := HQ7.out.out.at hpg HP8.out
                have hBr := Below.trans HNB.out (HQ7.out.out.below HNB.out.size hwl)
                have HBr := Lib.hid hBr
                have HAr : Hid (Cell.Arena wr a b 0 R0) := ⟨HQ7.out.out.at hag HA8.out.ha, HQ7.out.out.at hbg HA8.out.hb, HA8.out.ne, by omega, by omega⟩
                clear hBr HQ6 HQ7 HNB H8 HP8 HA8
                have haw := (Array.getElem?_eq_some_iff.1 HAr.out.ha).1
                have hbw := (Array.getElem?_eq_some_iff.1 HAr.out.hb).1
                have hww := HBr.out.size
                go_wp2_with fail
                refine (HF.out.fresh p _ HPr.out).mono ?_
                rintro e w11 ⟨a2, b2, rfl, hA2, ha2, hb2, hM2⟩
                have HA2 := Lib.hid hA2
                have HAx := Lib.hid (HAr.out.later hM2)
                have HBx := Lib.hid (Below.trans HBr.out (Below.mono hM2 hww))
                have hz1 := HF.out.z1
                have HSt := Lib.hid (Cell.Store_yes hA2 (by omega) 0 5 (by rw [HF.out.len0]; omega))
                clear hA2 hM2 HAr HBr HPr
                go_wp2_with fail
                refine (PClock_c _ _).mono ?_
                rintro e w' ⟨rfl, rfl⟩
                go_wp2_with fail
                refine HSt.out.mono ?_
                rintro e w12 ⟨rfl, _, hT12⟩
                have HAy : Hid (Cell.Arena w12 a b 0 R0) := ⟨(hT12.block a (by omega) (by omega)).trans HAx.out.ha, (hT12.block b (by omega) (by omega)).trans HAx.out.hb, HAx.out.ne, by omega, by omega⟩
                have HBy := Lib.hid (Below.trans HBx.out (hT12.below (B := w.heap.size) (by omega) (by omega)))
                have HLd : Hid (Calls Try.prog 28 #[.pointer (some ⟨a, 0, none⟩), .int .i64 0] w12 fun e w' => e = .returned (.int .u64 0) ∧ Cell.Turned a b w12 w') := by
                  have h0 : 0 < R0.length := by rw [HF.out.len0]; omega
                  have hh := Cell.Load_yes HAy.out (by omega) 0 h0
                  have e0 : R0[0] = 0 := by have := HF.out.zero; rw [List.getElem?_eq_getElem h0] at this; exact Option.some.inj this
                  rw [e0] at hh
                  exact hh.mono fun e w' h => ⟨h.1, h.2.2⟩
                clear HAx HBx HA2 HSt hT12
                go_wp2_with fail
                refine (PClock_c _ _).mono ?_
                rintro e w' ⟨rfl, rfl⟩
                go_wp2_with fail
                refine HLd.out.mono ?_
                rintro e w13 ⟨rfl, hT13⟩
                go_wp2_with fail
                go_ret
                exact ⟨rfl, Below.trans HBy.out (hT13.below (by omega) (by omega))⟩
theorem fresh (xs : List Int) (w : World) (h : xs.length = 13) (_ : ∀ z ∈ xs, (Lit.int .i64 z).wf = true) :
    Calls Try.prog 12 #[.agg (xs.map (Value.int .i64)).toArray] w fun e w' => e = .returned (.bool true) ∧ Made w w' := by
  change Calls Try.prog 12 #[.agg (row xs)] w fun e w' => e = .returned (.bool true) ∧ Made w w'
  rcases chk_cases xs with ⟨_, hr⟩ | ⟨j, _, _, _, hc⟩
  · exact fresh_right xs w h hr
  · exact fresh_wrong xs w h (by rw [hc]; simp)
end Go.Proofs.Ytnkcekgjppkbpaa.Law3
