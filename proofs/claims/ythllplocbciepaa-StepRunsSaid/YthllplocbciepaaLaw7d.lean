/- Layer 7, StepRuns: true whatever the input. -/
import Derived.Test.YthllplocbciepaaLaw7c
import Derived.Test.YthllplocbciepaaOne7
import Derived.Test.YthllplocbciepaaEnd7
namespace Go.Proofs.Ythllplocbciepaa.Cod.Seven
open Go.RowKit Go.Proofs.Ythllplocbciepaa Go.Proofs.Ythllplocbciepaa.Cell Go.ChangeShapes Go.WideShapes Go.Deep
set_option linter.unusedVariables false
set_option linter.unusedSimpArgs false

theorem mal {w X : World} {o : Obj} (h : Made w X) : Made w (X.alloc o) := h.alloc h.size _
theorem reads_new3 (w7 : World) (x y z : Value) (t : TypeId) : ReadsZ 3 (w7.alloc (.cells #[x, y, z] t)) (some ⟨w7.heap.size, 0, none⟩) 1 [x, y, z] := ⟨rfl, fun j u hu => ⟨_, rfl, by
  have e : (⟨w7.heap.size, 0, none⟩ : Addr).add j = ⟨w7.heap.size, j, none⟩ := by unfold Addr.add; split <;> simp_all
  rw [e, cell_of_row _ _ j _ _ _ (heap_alloc_new w7 (.cells #[x, y, z] t))]
  simpa using hu⟩⟩
theorem results_cell_tmp1 {P : Program} {fn : Func} {p t : Tmp} {ty : TypeId} (h : fn.results = #[.cell p ty, .tmp t]) (tmps : Array Value) (w : World) (g : Nat) (tt : TypeId) (cs : Array Value) (fr : Nat × Nat) (d : TypeDesc)
    (hp : tmps.getD p undef = .pointer (some ⟨g, 0, none⟩)) (hg : w.heap[g]? = some (.cells cs tt fr))
    (hu : P.underlying ty = some d) (hd : (match d with | .struct _ | .array _ _ => true | _ => false) = true) (hi : (P.info? ty).map (·.size) = some cs.size) :
    (results fn tmps).run P w = .ok (.tuple #[.agg cs, tmps.getD t undef]) w := by
  have hp' : tmps[p]?.getD undef = .pointer (some ⟨g, 0, none⟩) := by simpa using hp
  simp [results, h, hp', asAddr, run_loadVar_row w g tt ty cs fr d hg hu hd hi]
set_option maxRecDepth 100000 in
set_option maxHeartbeats 400000 in
theorem RNew_4 (w : World) : Calls Try.prog 46 #[.int .i64 4] w fun e w' => ∃ ra, e = .returned (.tuple #[.agg #[.slice (some ⟨ra, 0, none⟩) 4 4, .int .i64 0], .int .i64 0]) ∧ w'.heap[ra]? = some (.cells (row (List.replicate 4 0)) 22 (0, 0)) ∧ w.heap.size ≤ ra ∧ Made w w' := by
  have HZ := Lib.hid (show (Try.prog.info? 68).map (·.size) = some 2 by kernel_rfl)
  have hm : ∀ w : World, (Instr.makeSlice 54 (.int .i64 4) (.int .i64 4)).run Try.prog w = .ok (.slice (some ⟨w.heap.size, 0, none⟩) 4 4) (w.alloc (.cells (row (List.replicate 4 0)) 22)) := fun w => make_run64 4 (by omega) w
  go_enter Try.func46, Try.ntmps46
  go_wp2_with fail
  refine bodyPost_ret (results_cell_tmp1 rfl _ _ w.heap.size 68 #[.slice (some ⟨w.heap.size + 1, 0, none⟩) 4 4, .int .i64 0] (0, 0) _ (by simp) (heap_alloc2_old _ _ _) Try.underlying68 rfl HZ.out) rfl ⟨w.heap.size + 1, rfl, ?_, by omega, ((Made.refl w).alloc (Nat.le_refl _) _).alloc (by simp) _⟩
  have := heap_alloc_new (w.alloc (.cells #[.slice (some ⟨w.heap.size + 1, 0, none⟩) 4 4, .int .i64 0] 68)) (.cells (row (List.replicate 4 0)) 22)
  rw [World.size_alloc] at this
  exact this
theorem One.start {AF : Nat → Option Addr} {CF : Nat → Nat} {a b ra ns : Nat} {ls : List (List Acc)} {w w3 : World} (hA : Arena w3 a b 0 (List.replicate 4 0)) (hra : w3.heap[ra]? = some (.cells (row (List.replicate 4 0)) 22 (0, 0))) (hbel : Below w.heap.size w w3) (hge : w.heap.size ≤ a ∧ w.heap.size ≤ b ∧ w.heap.size ≤ ra) (hne : a ≠ ra ∧ b ≠ ra) :
    One AF CF a b (w3.heap.size + 1) ns ls w3.heap.size ra w 0 0 (.slice none 0 0) (.slice none 0 0) [] [] ((w3.alloc (.cells #[.slice (some ⟨ra, 0, none⟩) 4 4, .int .i64 0] 68)).alloc (.cells (row (List.replicate ns 0)) 22)) := by
  have la := (Array.getElem?_eq_some_iff.1 hA.ha).1
  have lb := (Array.getElem?_eq_some_iff.1 hA.hb).1
  have lr := (Array.getElem?_eq_some_iff.1 hra).1
  have hM : Made w3 ((w3.alloc (.cells #[.slice (some ⟨ra, 0, none⟩) 4 4, .int .i64 0] 68)).alloc (.cells (row (List.replicate ns 0)) 22)) := mal (mal (Made.refl _))
  have h1 : ((w3.alloc (.cells #[.slice (some ⟨ra, 0, none⟩) 4 4, .int .i64 0] 68)).alloc (.cells (row (List.replicate ns 0)) 22)).heap[w3.heap.size + 1]? = some (.cells (row (List.replicate ns 0)) 22 (0, 0)) := by
    have := heap_alloc_new (w3.alloc (.cells #[.slice (some ⟨ra, 0, none⟩) 4 4, .int .i64 0] 68)) (.cells (row (List.replicate ns 0)) 22)
    rw [World.size_alloc] at this
    exact this
  have h2 : ((w3.alloc (.cells #[.slice (some ⟨ra, 0, none⟩) 4 4, .int .i64 0] 68)).alloc (.cells (row (List.replicate ns 0)) 22)).heap[w3.heap.size]? = some (.cells #[.slice (some ⟨ra, 0, none⟩) 4 4, .int .i64 0] 68 (0, 0)) := by
    rw [heap_alloc_old _ _ (by rw [World.size_alloc]; omega)]
    exact heap_alloc_new _ _
  have hno : ∀ k, scr4 (.slice none 0 0) (.slice none 0 0) w3.heap.size ra k → k = w3.heap.size ∨ k = ra := fun k hk => by
    rcases hk with hk | hk | hk
    · simp [Value.ownBlock] at hk
    · simp [Value.ownBlock] at hk
    · exact hk
  have hs := hbel.size
  refine ⟨Ready.start (Inv.scrstart (start7 (own := fun k => k = w3.heap.size + 1) (hA.later hM) (zeros_wide 4) (by simp) (by omega) h1 rfl (fun k hk => by subst hk; simp only [World.size_alloc]; omega)) (fun k hk => ?_)), ⟨rfl, Or.inl ⟨rfl, rfl⟩⟩, ⟨rfl, Or.inl ⟨rfl, rfl⟩⟩, fun j hj => by simp [Value.ownBlock] at hj, fun j hj => by simp [Value.ownBlock] at hj, h2, (hM.block _ lr).trans hra, ⟨by omega, hge.2.2⟩, Below.trans hbel (Below.mono hM hs), ⟨by simp only [World.size_alloc]; omega, fun k hk e => ?_⟩⟩
  · have := hno k hk
    refine ⟨?_, ?_, by simp, ?_, by simp only [World.size_alloc]; omega⟩
    · show k ≠ a; omega
    · show k ≠ b; omega
    · show ¬ k = w3.heap.size + 1; omega
  · rcases e with e | e | e | e | e
    · have : k = a := e; omega
    · have : k = b := e; omega
    · simp at e
    · have : k = w3.heap.size + 1 := e; omega
    · have := hno k e; omega
set_option maxRecDepth 100000 in
set_option maxHeartbeats 8000000 in
theorem runs_loop (A A' : Option Addr) (n c n' c' : Nat) (ls : List (List Acc)) (ps : List Int) (hn : Hid (n = ls.length)) (h6 : n ≤ 6) (hfew : few ls = true) (hn' : Hid (n' = ps.length)) (h200 : n' ≤ 200) (hnc' : n' ≤ c') (w : World) (hl : Hid (RdAA w w.heap.size A ls)) (hp : Hid (Rd .i64 w w.heap.size A' ps)) :
    Calls Try.prog 9 #[.slice A n c, .slice A' n' c'] w fun e w' => e = .returned (.bool true) ∧ Made w w' := by
  have HNW : Hid (∀ w, Calls Try.prog 36 #[.int .i64 4] w fun e w' => ∃ a b, e = .returned (.tuple #[.pointer (some ⟨a, 0, none⟩), .int .i64 0]) ∧ Arena w' a b 0 (List.replicate 4 0) ∧ w.heap.size ≤ a ∧ w.heap.size ≤ b ∧ Made w w') := fun w => New_ex 4 (by omega) (by omega) w
  have hn200 : ¬ 200 < (n' : Int) := by omega
  have hmk : ∀ w : World, (Instr.makeSlice 54 (.int .i64 (n : Int)) (.int .i64 (n : Int))).run Try.prog w = .ok (.slice (some ⟨w.heap.size, 0, none⟩) n n) (w.alloc (.cells (row (List.replicate n 0)) 22)) := fun w => make_run64 n (by omega) w
  have HE := Lib.hid elem_task
  have HFW := Lib.hid hfew
  have hall : ∀ i, i < ls.length → ∃ p : Option Addr × Nat, ∀ hi : i < ls.length, ∃ ad : Addr, A = some ad ∧ ad.block < w.heap.size ∧ w.cell? (ad.add i) = some (.slice p.1 ls[i].length p.2) ∧ ls[i].length ≤ p.2 ∧ p.2 ≤ 9223372036854775807 ∧ RdA w w.heap.size p.1 ls[i] ∧ ∀ z ∈ ls[i], z.Wf := fun i hi => by
    obtain ⟨ad, A2, m, c2, k1, k2, k3, k4, k5, k6, k7, k8⟩ := hl.out i hi
    subst k4
    exact ⟨(A2, c2), fun _ => ⟨ad, k1, k2, k3, k5, k6, k7, k8⟩⟩
  obtain ⟨P, hP⟩ := choose_lt hall
  have HP9 := Lib.hid hP
  have HLS : Hid (∀ i (h : i < ls.length), RdA w w.heap.size ((fun i => (P i).1) i) ls[i] ∧ ls[i].length ≤ 30) := fun i hi => by
    obtain ⟨_, _, _, _, _, _, k6, _⟩ := hP i hi hi
    exact ⟨k6, ((few_iff ls).1 hfew).1 i hi⟩
  clear hfew hall hP
  go_enter Try.func9, Try.ntmps9
  go_wp2_with fail
  refine (Spk7.speaks_c _).mono ?_
  rintro e w0 ⟨rfl, hm0⟩
  have HM0 := Lib.hid hm0
  clear hm0
  go_wp2_with fail
  refine (few_c A n c ls w0 w.heap.size hn (by omega) (hl.out.later HM0.out)).mono ?_
  rintro e w0' ⟨rfl, rfl⟩
  rw [HFW.out]
  go_wp2_with fail
  refine (HNW.out _).mono ?_
  rintro e w1 ⟨a, b, rfl, hA, hwa, hwb, hm1⟩
  have HA := Lib.hid hA
  have HM1 := Lib.hid hm1
  clear hA hm1 HNW
  go_wp2_with fail
  refine (RNew_4 _).mono ?_
  rintro e w2 ⟨ra, rfl, hra, hwr, hm2⟩
  have HO0 : Hid (One (fun i => (P i).1) (fun i => (P i).2) a b (w2.heap.size + 1) n ls w2.heap.size ra w 0 0 (.slice none 0 0) (.slice none 0 0) [] [] ((w2.alloc (.cells #[.slice (some ⟨ra, 0, none⟩) 4 4, .int .i64 0] 68)).alloc (.cells (row (List.replicate n 0)) 22))) := by
    have la := (Array.getElem?_eq_some_iff.1 HA.out.ha).1
    have lb := (Array.getElem?_eq_some_iff.1 HA.out.hb).1
    have := HM0.out.size
    have := HM1.out.size
    exact One.start (HA.out.later hm2) hra (Made.trans (Made.trans HM0.out HM1.out) hm2) (by omega) (by omega)
  obtain ⟨iu, hiu⟩ := Option.map_eq_some_iff.1 tasks_info
  simp only [Prod.mk.injEq] at hiu
  have HI := Lib.hid hiu
  clear hiu hra hwr hwa hwb hm2 HA HM0 HM1 HFW
  go_wp2_with fail
  generalize w2.heap.size = bm at *
  go_loopw [10, 11, 51] (fun v1 vm iv wr => ∃ (k : Nat) (ts : List Nat) (rs : List Value), k ≤ n ∧ iv = .int .i64 k ∧ Hid (One (fun i => (P i).1) (fun i => (P i).2) a b (bm + 1) n ls bm ra w k k v1 vm ts rs wr)) (fun _ _ iv _ => (n - intOf iv).toNat)
  case atStart => exact ⟨0, [], [], by omega, rfl, HO0⟩
  case round =>
    obtain ⟨k, ts, rs, hk, rfl, HO⟩ := hrel
    clear HO0
    by_cases hlt : k < n
    · have hkl : k < ls.length := by have := hn.out; omega
      obtain ⟨a0, hA0, hb0, hcell0, hmc, hcc, hrd, hwf⟩ := HP9.out k hkl hkl
      have hcell := (HO.out.bel.cell (p := a0.add k) (by rw [add_block]; exact hb0)).trans hcell0
      subst hA0
      have HRD := Lib.hid hrd
      have HWF := Lib.hid hwf
      have HGD : Hid (ls.getD k [] = ls[k]) := by show _ = _; rw [List.getD_eq_getElem?_getD, List.getElem?_eq_getElem hkl]; rfl
      have i0 : (0 : Int) ≤ (k : Int) := by omega
      have i1 : (k : Int) < (n : Int) := by omega
      obtain ⟨A2, hA2⟩ : ∃ A2, A2 = (P k).1 := ⟨_, rfl⟩
      obtain ⟨c2, hc2⟩ : ∃ c2, c2 = (P k).2 := ⟨_, rfl⟩
      obtain ⟨m, hm⟩ : ∃ m, m = ls[k].length := ⟨_, rfl⟩
      rw [← hA2, ← hc2, ← hm] at hcell
      have HA2 := Lib.hid hA2
      have HC2 := Lib.hid hc2
      have HMM := Lib.hid hm
      have HC1 : Hid (Calls Try.prog 38 #[.pointer (some ⟨a, 0, none⟩), .slice A2 m c2, .pointer (some ⟨bm + 1, k, none⟩)] wr (Makes (S7 a b (bm + 1) n) 250 (k, ls.getD k []) ⟨ts, fun k => k = bm + 1, scr4 u10 u11 bm ra⟩ wr)) := by
        show Calls _ _ _ _ _
        rw [HGD.out]
        exact code_all ls[k] 250 k w.heap.size wr _ A2 m c2 HMM.out (by omega) (by omega) hlt (fun k hk => HO.out.r1.inv.mut_lt hk) HO.out.old (by rw [hA2]; exact HRD.out.later HO.out.bel) HWF.out
      clear hrd hwf hcell0 hb0 hA2 hc2 hm hmc hcc
      go_wp2_with fail
      refine HC1.out.mono ?_
      rintro e w5 ⟨v5, rfl, hm5, hr5⟩
      have HM5 := Lib.hid hm5
      have HR5 := Lib.hid hr5
      have HV5 := Lib.hid hr5.func
      clear hm5 hr5 HC1
      go_wp2_with fail
      refine (New_c HV5.out).mono ?_
      rintro e w6 ⟨rfl, rfl⟩
      have HN5 := Lib.hid (news_one (W := w5.alloc (.cells #[v5, .int .i64 0] 117)) (x := .pointer (some ⟨w5.heap.size, 0, none⟩)) (t := 57) (b := w5.heap.size + 1) (by simp only [World.size_alloc]))
      have HO5 := Lib.hid (own_made HO.out.o1 (Made.trans HM5.out (((Made.refl w5).alloc (Nat.le_refl _) (.cells #[v5, .int .i64 0] 117)).alloc (by simp only [World.size_alloc]; omega) (.cells #[.pointer (some ⟨w5.heap.size, 0, none⟩)] 57))))
      have hb5 : w.heap.size ≤ ((w5.alloc (.cells #[v5, .int .i64 0] 117)).alloc (.cells #[.pointer (some ⟨w5.heap.size, 0, none⟩)] 57)).heap.size := by have := HO.out.bel.size; have := HM5.out.size; simp only [World.size_alloc]; omega
      go_wp2_with (first | (at_builtin; (refine wpList_append_lies _ rfl (.tmp 56) (.tmp 64) 55 rfl w.heap.size 57 iu (.pointer none) 1 8 Try.underlying55 HI.out.1 HI.out.2.1 HI.out.2.2.1 HI.out.2.2.2 rfl (by omega) u10 k (ptrs ts) (by simp [Act.eval, Act.put]) HO5.out ⟨w5.heap.size + 1, 0, none⟩ 1 1 [.pointer (some ⟨w5.heap.size, 0, none⟩)] (by simp [Act.eval, Act.put]) rfl HN5.out (by simp [Value.oneCell']) (by omega) (by unfold maxLen; omega) (by omega) hb5 (w5.heap.size + 1 + 1) (by simp only [World.size_alloc]) ?_; intro g1 cap1 w7 hown hgrow hat hlt1; have HP1 := Lib.hid (HO.out.more HM5.out HR5.out hown hgrow hat hlt1); have HOM := Lib.hid (own_made HP1.out.om (mal (o := .cells #[.slice A2 m c2, .int .i64 0, .int .u64 0] 73) (Made.refl w7))); have HRM := Lib.hid (reads_new3 w7 (.slice A2 m c2) (.int .i64 0) (.int .u64 0) 73); have hb7 := HP1.out.bel.size; clear hown hgrow hat hlt1 HO5 HN5 HV5 HR5 HM5 HO)) | (at_builtin; (refine wpList_appz _ rfl (.tmp 66) (.tmp 69) 71 rfl w.heap.size 73 (.agg #[.slice none 0 0, .int .i64 0, .int .u64 0]) 3 40 HE.out u11 k (mlist (fun i => (P i).1) (fun i => (P i).2) ls [] [] k) (by simp [Act.eval, Act.put]) HOM.out (some ⟨w7.heap.size, 0, none⟩) 1 1 [.slice A2 m c2, .int .i64 0, .int .u64 0] (by simp [Act.eval, Act.put]) HRM.out (by simp [Value.oneCell']) (by unfold maxLen; omega) (by omega) (by simp only [World.size_alloc]; omega) ?_; intro G8 cG8 w8 hown8 hgrow8 hat8; have HW8 := Lib.hid hown8; have HG8 := Lib.hid hgrow8; have HT8 := Lib.hid hat8; clear hown8 hgrow8 hat8)))
      have HEQ : mlist (fun i => (P i).1) (fun i => (P i).2) ls [] [] (k + 1) = mlist (fun i => (P i).1) (fun i => (P i).2) ls [] [] k ++ [.slice A2 m c2, .int .i64 0, .int .u64 0] := by
        have e : mlist (fun i => (P i).1) (fun i => (P i).2) ls [] [] (k + 1) = mlist (fun i => (P i).1) (fun i => (P i).2) ls [] [] k ++ mcell (fun i => (P i).1) (fun i => (P i).2) ls k (([] : List Nat).getD k 0) (([] : List Int).getD k 0) := rfl
        rw [e]
        unfold mcell
        rw [HGD.out, ← HMM.out]
        simp [HA2.out, HC2.out]
      have HP2 := Lib.hid (HP1.out.model (by rw [HEQ]; exact HW8.out) HG8.out (by have := HT8.out; rw [World.size_alloc] at this; exact this))
      clear HW8 HG8 HT8 HOM HRM HP1 HEQ
      go_roundw
      case rel => exact ⟨k + 1, _, _, by omega, by go_num, HP2⟩
      case measure => simp [intOf]; omega
    · obtain rfl : k = n := by omega
      clear hmk HE HI HP9
      obtain ⟨T, cT, rfl, href⟩ := HO.out.ref (ps := ps) (c' := c') hn.out h6 hn'.out h200 hp.out HLS.out
      have HREF := Lib.hid href
      obtain ⟨M1, hM1⟩ : ∃ M1, M1 = ((M0 a b (bm + 1) k ls k).run ps).1 := ⟨_, rfl⟩
      obtain ⟨q1, hq1⟩ : ∃ q1, q1 = ((M0 a b (bm + 1) k ls k).run ps).2 := ⟨_, rfl⟩
      have HRUN : Hid ((M0 a b (bm + 1) k ls k).run ps = (M1, q1)) := by show _ = _; rw [hM1, hq1]
      have HGD : Hid (Good ls M1) := by show Good _ _; rw [hM1]; exact (M0_good hn.out).run ps
      rw [← hM1, ← hq1] at HREF
      have hbox := HO.out.box
      have bl := (Array.getElem?_eq_some_iff.1 hbox).1
      have c0 : wr.cell? ⟨bm, 0, none⟩ = some (.slice (some ⟨ra, 0, none⟩) 4 4) := cell_of_row _ _ _ _ _ _ hbox
      have c1 : wr.cell? ⟨bm, 1, none⟩ = some (.int .i64 0) := cell_of_row _ _ _ _ _ _ hbox
      have HBOX := Lib.hid hbox
      have HAR : Hid (Arena wr a b 0 [0, 0, 0, 0]) := HO.out.r1.inv.ar
      clear href hM1 hq1 hbox
      go_wp2_with fail
      refine (Count_c HAR.out).mono ?_
      rintro e wr' ⟨rfl, rfl⟩
      go_wp2_with fail
      refine HREF.out.mono ?_
      rintro e w4 ⟨A2, c2, G, cap, rfl, hrd, hrows, hnew, hm4⟩
      obtain ⟨A1, c1', rfl, htl, hmid⟩ := HO.out.mid (c2 := c2) hp.out hm4 HGD.out hrd hrows hnew
      have HMID := Lib.hid (hmid.later (Made.drewN _ 1))
      have HTL := Lib.hid htl.symm
      have hb4 := (hm4.block _ bl).trans HBOX.out
      have l4 := (Array.getElem?_eq_some_iff.1 hb4).1
      have d0 : w4.cell? ⟨bm, 0, none⟩ = some (.slice (some ⟨ra, 0, none⟩) 4 4) := cell_of_row _ _ _ _ _ _ hb4
      have d1 : w4.cell? ⟨bm, 1, none⟩ = some (.int .i64 0) := cell_of_row _ _ _ _ _ _ hb4
      have f0 : w4.frozen? ⟨bm, 0, none⟩ = false := frozen_of_row _ _ _ _ _ hb4
      have f1 : w4.frozen? ⟨bm, 1, none⟩ = false := frozen_of_row _ _ _ _ _ hb4
      clear hrd hrows hnew hmid htl hb4 HREF HO HAR HBOX c0 c1 bl
      go_wp2_with fail
      have HSR : Hid (∀ wa, Mid7 (fun i => (P i).1) (fun i => (P i).2) a b (bm + 1) k ls ps M1 ts bm A1 A2 A' G c2 w wa → Calls Try.prog 39 #[.slice A1 k c1', .slice A' n' c'] wa fun e w' => e = .returned (.int .i64 q1) ∧ Hid (End7 (fun i => (P i).1) (fun i => (P i).2) a b (bm + 1) k ls M1 ts bm A1 A2 G c2 w w')) := fun wa h =>
        h.run HRUN.out (by have := hn'.out; omega) HTL (by omega) hn'
      have HC0 := HMID.out.cnt
      go_region_held3 (fun w' => w'.cell? ⟨bm, 1, none⟩ = some (.int .i64 M1.σ.c)) (first | exact HC0 | exact HEND.out.cnt) (first | (go_at_call 39; refine (HSR.out _ HMID.out).mono ?_; rintro e w5 ⟨rfl, HEND⟩; clear HSR HMID) | (go_at_call 43; refine (Count_c HEND.out.f.ar).mono ?_; rintro e w' ⟨rfl, rfl⟩))
      go_wp2_with fail
      go_loopw [97] (fun iv wr => ∃ (i : Nat), i ≤ k ∧ iv = .int .i64 i ∧ Hid (Made w5 wr)) (fun iv _ => (k - intOf iv).toNat)
      case atStart => exact ⟨0, by omega, rfl, Lib.hid (Made.refl _)⟩
      case round =>
        obtain ⟨i, hi, rfl, HMr⟩ := hrel
        by_cases hik : i < k
        · obtain ⟨ad1, p1, g, u1, s, m, v, rfl, rfl, d1, g1, z1, r0, r1, r2, x1, ⟨hil, hml, hsm⟩, lg, ls1⟩ := (HEND.out.later HMr.out).at hik HTL.out.symm hn.out
          have hm30 : m ≤ 30 := by rw [hml]; exact (HLS.out i hil).2
          have HE2 : Hid (∀ w', Calls Try.prog 48 #[.agg #[.slice ((fun i => (P i).1) i) m ((fun i => (P i).2) i), .int .i64 (s : Int), .int .u64 v]] w' fun e w'' => e = .returned (.bool (decide (m ≤ s))) ∧ Made w' w'') := fun w' => Ref7.Ended_r _ m _ s v w' (by omega) (by omega)
          generalize decide (m ≤ s) = bb at *
          have HE1 : Hid (∀ w', Made wr w' → Calls Try.prog 41 #[.pointer (some ⟨p1, 0, none⟩)] w' fun e w'' => e = .returned (.bool bb) ∧ w' = w'') := fun w' hm => ended_of (s := s) z1 ((hm.block _ (Array.getElem?_eq_some_iff.1 g1).1).trans g1)
          have HE3 : Hid (∀ w', Made wr w' → Calls Try.prog 40 #[.pointer (some ⟨p1, 0, none⟩)] w' fun e w'' => e = .returned (.int .i64 (s : Int)) ∧ w' = w'') := fun w' hm => steps_of (v := u1) ((hm.block _ (Array.getElem?_eq_some_iff.1 g1).1).trans g1)
          have HKEEP : Hid (∀ w' : World, Made wr w' → Hid (Made wr w') ∧ w'.cell? ⟨g, i * 3, none⟩ = some (.slice ((fun i => (P i).1) i) m ((fun i => (P i).2) i)) ∧ w'.cell? ⟨g, i * 3 + 1, none⟩ = some (.int .i64 (s : Int)) ∧ w'.cell? ⟨g, i * 3 + 2, none⟩ = some (.int .u64 v) ∧ w'.cell? ⟨bm + 1, i, none⟩ = some (.int .u64 v)) := fun w' hw' => ⟨Lib.hid hw', (hw'.cell lg).trans r0, (hw'.cell lg).trans r1, (hw'.cell lg).trans r2, (hw'.cell ls1).trans x1⟩
          have i0 : (0 : Int) ≤ (i : Int) := by omega
          have i1 : (i : Int) < (k : Int) := by omega
          simp only at HE2 HKEEP r0
          clear g1 z1 hml hil
          go_wp2_with fail
          cases bb
          all_goals
            go_region_held3 (fun w1' => Hid (Made wr w1') ∧ w1'.cell? ⟨g, i * 3, none⟩ = some (.slice (P i).1 m (P i).2) ∧ w1'.cell? ⟨g, i * 3 + 1, none⟩ = some (.int .i64 (s : Int)) ∧ w1'.cell? ⟨g, i * 3 + 2, none⟩ = some (.int .u64 v) ∧ w1'.cell? ⟨bm + 1, i, none⟩ = some (.int .u64 v)) ((refine HKEEP.out _ ?_; first | exact Made.drewN wr 1 | exact HMX.out | exact made_of (by assumption))) (first | (go_at_call 41; refine (HE1.out _ (made_of (by assumption))).mono ?_; rintro e w' ⟨rfl, rfl⟩) | (go_at_call 48; refine (HE2.out _).mono ?_; rintro e w6 ⟨rfl, hm6⟩; have HMX := Lib.hid (Made.trans (made_of (by assumption)) hm6)) | (go_at_call 40; refine (HE3.out _ (made_of (by assumption))).mono ?_; rintro e w' ⟨rfl, rfl⟩))
            all_goals
              go_wp2_with fail
              go_roundw
              case rel => exact ⟨i + 1, by omega, by go_num, Lib.hid (Made.trans HMr.out (made_of (by assumption)))⟩
              case measure => simp [intOf]; omega
        · obtain rfl : i = k := by omega
          have HQE := Lib.hid (HEND.out.later HMr.out)
          obtain ⟨xs, hxs⟩ : ∃ xs, xs = M1.σ.xs := ⟨_, rfl⟩
          have HX4 : Hid (xs.length = 4) := by show _ = _; rw [hxs]; exact M0_xlen HRUN.out
          have HA1 : Hid (Arena wr a b M1.σ.c xs) := by rw [hxs]; exact HQE.out.f.ar
          have HRD : Hid (Rd .u64 wr wr.heap.size A2 xs) := by show Rd _ _ _ _ _; rw [hxs]; exact HQE.out.rd
          have HBX : Hid (wr.cell? ⟨bm, 0, none⟩ = some (.slice A2 4 c2)) := cell_of_row _ _ _ _ _ _ HQE.out.box
          have HBL := Lib.hid (Array.getElem?_eq_some_iff.1 HQE.out.box).1
          have HM11 := Lib.hid HQE.out.bel
          have HAL1 : Hid (Calls Try.prog 42 #[.pointer (some ⟨a, 0, none⟩)] wr fun e w' => e = .returned (.slice (some ⟨wr.heap.size, 0, none⟩) 4 4) ∧ w'.heap[wr.heap.size]? = some (.cells (row xs) 22 (0, 0)) ∧ Made wr w') := by
            have h := All_c HA1.out (by rw [HX4.out]; omega)
            rw [HX4.out] at h
            exact h
          clear hxs HQE HEND HA1
          go_wp2_with fail
          refine HAL1.out.mono ?_
          rintro e w12 ⟨rfl, hrow, hm12⟩
          have HRW := Lib.hid hrow
          have HR12 := Lib.hid ((HRD.out.later hm12).more hm12.size)
          have HB12 := Lib.hid ((hm12.cell HBL.out).trans HBX.out)
          have HBL12 : Hid (bm < w12.heap.size) := Nat.lt_of_lt_of_le HBL.out hm12.size
          have hgl := (Array.getElem?_eq_some_iff.1 hrow).1
          have HM12 := Lib.hid (Below.trans HM11.out (Below.mono hm12 HM11.out.size))
          clear hrow hm12 HAL1 HM11 HRD HBX HBL
          generalize wr.heap.size = g1 at *
          clear HMr
          go_wp2_with fail
          go_loopw [136] (fun iv wz => ∃ j : Nat, j ≤ 4 ∧ iv = .int .i64 j ∧ Hid (Made w12 wz)) (fun iv _ => (4 - intOf iv).toNat)
          case atStart => exact ⟨0, by omega, rfl, Lib.hid (Made.refl _)⟩
          case round =>
            obtain ⟨j, hj, rfl, HMz⟩ := hrel
            by_cases hjq : j < 4
            · have hjx : j < xs.length := by have := HX4.out; omega
              have j0 : (0 : Int) ≤ (j : Int) := by omega
              have j1 : (j : Int) < 4 := by omega
              have cA : wr.cell? ⟨g1, j, none⟩ = some (.int .u64 xs[j]) := by
                rw [cell_of_row _ _ _ _ _ _ ((HMz.out.block _ hgl).trans HRW.out)]
                exact row_at' hjx
              obtain ⟨ad2, rfl, hb2, cB0⟩ := HR12.out j hjx
              have cB := (HMz.out.cell (p := ad2.add j) (by rw [add_block]; exact hb2)).trans cB0
              have cX := (HMz.out.cell (p := ⟨bm, 0, none⟩) HBL12.out).trans HB12.out
              generalize xs[j] = v at cA cB
              clear hjx cB0
              go_wp2_with fail
              go_roundw
              case rel => exact ⟨j + 1, by omega, by go_num, HMz⟩
              case measure => simp [intOf]; omega
            · obtain rfl : j = 4 := by omega
              have HF := Lib.hid (Below.trans HM12.out (Below.mono HMz.out HM12.out.size))
              go_wp2_with fail
              go_ret
              exact ⟨rfl, HF.out⟩
end Go.Proofs.Ythllplocbciepaa.Cod.Seven
