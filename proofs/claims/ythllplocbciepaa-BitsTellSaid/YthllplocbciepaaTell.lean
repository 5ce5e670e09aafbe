/- Package knelllaw06, walked: BitsTell. -/
import Derived.Test.YthllplocbciepaaEach
import Derived.Test.YthllplocbciepaaSub
import Derived.Deep.RegionHeld3
import Derived.Deep.MidRow
namespace Go.Proofs.Ythllplocbciepaa.Tell
open Go.RowKit Go.Shelf Go.BigFrame Go.Proofs.Ythllplocbciepaa Go.Proofs.Ythllplocbciepaa.Num Go.Proofs.Ythllplocbciepaa.SetN Go.Proofs.Ythllplocbciepaa.Bits Go.Proofs.Ythllplocbciepaa.Law6 Go.Proofs.Ythllplocbciepaa.Ref6 Go.Proofs.Ythllplocbciepaa.Each
set_option linter.unusedVariables false
set_option linter.unusedSimpArgs false

theorem wpQuiet_load_row {P : Program} {ops : Array Oper} {C : World → Prop} {Q : Act → Prop} {a : Act} {o : Oper} {rest : List Oper} (hw : Region.wanted o (yielded ops a.tmps) = true) (ty : TypeId) (x : Operand) (ho : o.op = .load ty x)
    (g : Nat) (hx : a.eval x = .pointer (some ⟨g, 0, none⟩)) (t : TypeId) (cs : Array Value) (fr : Nat × Nat) (d : TypeDesc) (hg : ∀ w, C w → w.heap[g]? = some (.cells cs t fr))
    (hu : P.underlying ty = some d) (hd : (match d with | .struct _ | .array _ _ => true | _ => false) = true) (hi : (P.info? ty).map (·.size) = some cs.size)
    (h : wpQuiet P ops C Q rest (a.put o.dst (.agg cs))) : wpQuiet P ops C Q (o :: rest) a :=
  wpQuiet_want hw fun K hK => ⟨.agg cs, fun w hw' => by
    have hr := run_loadVar_row (P := P) w g t ty cs fr d (hg w hw') hu hd hi
    unfold Oper.quietAt
    simp [execOp, ho, hx, Instr.loadAt, Instr.sureAddr, hr, Oper.quietUpon, Result.andThen], hK _ h⟩

theorem brow_bits {f g : Nat → Bool} (h : ∀ i, i < 64 → f i = g i) : brow f = brow g := brow_congr h
theorem turn_with (s : Nat) (i : Int) (hs : s < 2 ^ 64) : brow (turnF s.testBit i true) = brow (addI s i).testBit := by
  apply brow_congr; intro j hj
  rw [bit_addI]; unfold turnF
  by_cases e : (j : Int) = i
  · rw [if_pos e]; simp [hj, e]
  · rw [if_neg e]; simp [e]
/-- The set without a number. -/
def subI (s : Nat) (i : Int) : Nat := if 0 ≤ i ∧ i < 64 then takeOut s i.toNat else s
theorem subI_lt {s : Nat} (hs : s < 2 ^ 64) (i : Int) : subI s i < 2 ^ 64 := by
  unfold subI; split
  · exact takeOut_lt hs
  · exact hs
theorem turn_without (s : Nat) (i : Int) (hs : s < 2 ^ 64) : brow (turnF s.testBit i false) = brow (subI s i).testBit := by
  apply brow_congr; intro j hj
  unfold turnF subI
  by_cases h : 0 ≤ i ∧ i < 64
  · rw [if_pos h, bit_takeOut hs (by omega)]
    by_cases e : (j : Int) = i
    · rw [if_pos e]
      have : decide (i.toNat = j) = true := by simp; omega
      rw [this]; simp
    · rw [if_neg e]
      have : decide (i.toNat = j) = false := by simp; omega
      rw [this]; simp
  · rw [if_neg h, if_neg (by omega)]
set_option maxHeartbeats 400000 in
theorem Without_no (s : Nat) (i : Int) (hs : s < 2 ^ 64) (h : ¬ (0 ≤ i ∧ i < 64)) (w : World) : Calls Try.prog 20 #[.int .u64 s, .int .i64 i] w fun e w' => e = .returned (.int .u64 s) ∧ w = w' := by
  have hm : Hid (bits .andNot .u64 (s : Int) 0 = s) := by
    show _ = _
    have := bits_andNot s 0 hs (by decide)
    rw [show ((0 : Nat) : Int) = 0 by rfl] at this
    rw [this, Nat.sub_zero, Nat.and_two_pow_sub_one_of_lt_two_pow hs]
  have H := Lib.hid (one_no i h)
  clear hs h
  go_enter Try.func20, Try.ntmps20
  go_wp2_with (first | (go_at_call 58; refine (H.out _).mono ?_; rintro e w' ⟨rfl, rfl⟩))
  go_ret
  exact ⟨Bits.ret_of (by simpa using hm.out), rfl⟩
theorem Without_c (s : Nat) (i : Int) (hs : s < 2 ^ 64) (w : World) : Calls Try.prog 20 #[.int .u64 s, .int .i64 i] w fun e w' => e = .returned (.int .u64 (subI s i : Nat)) ∧ w = w' := by
  by_cases h : 0 ≤ i ∧ i < 64
  · obtain ⟨n, rfl⟩ := Int.eq_ofNat_of_zero_le h.1
    unfold subI
    rw [if_pos h]
    exact Without_yes s n hs (by omega) w
  · unfold subI
    rw [if_neg h]
    exact Without_no s i hs h w
/-- What of a set lies between. -/
def midI (s : Nat) (a b : Int) : Nat := if (if a < 0 then 0 else a) ≤ (if 63 < b then 63 else b) then btw s (if a < 0 then 0 else a).toNat (if 63 < b then 63 else b).toNat else 0
theorem midI_lt (s : Nat) (a b : Int) : midI s a b < 2 ^ 64 := by
  unfold midI
  by_cases h : (if a < 0 then 0 else a) ≤ (if 63 < b then 63 else b)
  · rw [if_pos h]; exact btw_lt _ _ _
  · rw [if_neg h]; omega
theorem mid_bits (s : Nat) (a b : Int) : brow (midF s.testBit a b) = brow (midI s a b).testBit := by
  apply brow_congr; intro j hj
  unfold midF midI
  by_cases h : (if a < 0 then 0 else a) ≤ (if 63 < b then 63 else b)
  · rw [if_pos h, bit_btw (by split at h <;> split at h <;> (try split) <;> (try split) <;> omega) (by split <;> omega), Bool.and_assoc]
    congr 2
    · rw [decide_eq_decide]; split <;> omega
    · rw [decide_eq_decide]; split <;> split at h <;> omega
  · rw [if_neg h, Nat.zero_testBit]
    have : (decide (a ≤ (j : Int)) && decide ((j : Int) ≤ b)) = false := by
      rw [Bool.and_eq_false_iff, decide_eq_false_iff_not, decide_eq_false_iff_not]
      split at h <;> split at h <;> omega
    rw [this]; simp
theorem Between6_c (s : Nat) (a b : Int) (hs : s < 2 ^ 64) (w : World) : Calls Try.prog 16 #[.int .u64 s, .int .i64 a, .int .i64 b] w fun e w' => e = .returned (.int .u64 (midI s a b : Nat)) ∧ w = w' := by
  obtain ⟨fa, hfa⟩ : ∃ f : Int, f = (if a < 0 then 0 else a) := ⟨_, rfl⟩
  obtain ⟨fb, hfb⟩ : ∃ f : Int, f = (if 63 < b then 63 else b) := ⟨_, rfl⟩
  unfold midI
  rw [← hfa, ← hfb]
  by_cases h : fa ≤ fb
  · rw [if_pos h]
    have h0 : 0 ≤ fa := by rw [hfa]; split <;> omega
    have h1 : fb ≤ 63 := by rw [hfb]; split <;> omega
    exact Between_yes s fa.toNat fb.toNat a b hs (by rw [← hfa]; omega) (by rw [← hfb]; omega) (by omega) (by omega) w
  · rw [if_neg h]
    exact Between_no s a b fa fb hfa.symm hfb.symm (by omega) w

/-- What the set and its row are, as the walk asks them. -/
structure Facts (s : Nat) (i a b : Int) (M : Array Value) (BT : Bool → Array Value) (WT : Bool → Nat) (BM : Array Value) (WM : Nat) (nx : Int) (P : Nat) : Prop where
  len : M.size = 64
  one : M.all (·.oneCell') = true
  of_ : ∀ w : World, Calls Try.prog 24 #[.int .u64 (s : Int)] w fun e w' => e = .returned (.agg M) ∧ Made w w'
  turn : ∀ (c : Bool) (w : World), Calls Try.prog 27 #[.agg M, .int .i64 i, .bool c] w fun e w' => e = .returned (.agg (BT c)) ∧ Made w w'
  word : ∀ (c : Bool) (w : World), Calls Try.prog 26 #[.agg (BT c)] w fun e w' => e = .returned (.int .u64 (WT c : Int)) ∧ Made w w'
  with_ : ∀ w : World, Calls Try.prog 21 #[.int .u64 (s : Int), .int .i64 i] w fun e w' => e = .returned (.int .u64 (WT true : Int)) ∧ w = w'
  without : ∀ w : World, Calls Try.prog 20 #[.int .u64 (s : Int), .int .i64 i] w fun e w' => e = .returned (.int .u64 (WT false : Int)) ∧ w = w'
  btwS : ∀ w : World, Calls Try.prog 16 #[.int .u64 (s : Int), .int .i64 a, .int .i64 b] w fun e w' => e = .returned (.int .u64 (WM : Int)) ∧ w = w'
  btwR : ∀ w : World, Calls Try.prog 30 #[.agg M, .int .i64 a, .int .i64 b] w fun e w' => e = .returned (.agg BM) ∧ Made w w'
  wordM : ∀ w : World, Calls Try.prog 26 #[.agg BM] w fun e w' => e = .returned (.int .u64 (WM : Int)) ∧ Made w w'
  nextS : ∀ w : World, Calls Try.prog 18 #[.int .u64 (s : Int), .int .i64 a] w fun e w' => e = .returned (.int .i64 nx) ∧ w = w'
  nextR : ∀ w : World, Calls Try.prog 31 #[.agg M, .int .i64 a] w fun e w' => e = .returned (.int .i64 nx) ∧ Made w w'
  count : ∀ w : World, Calls Try.prog 17 #[.int .u64 (s : Int)] w fun e w' => e = .returned (.int .i64 (P : Int)) ∧ w = w'

theorem range_row6 {w : World} {b : Nat} {M : Array Value} {t : TypeId} {fr : Nat × Nat} (h : w.heap[b]? = some (.cells M t fr)) : w.rangeAt b 0 M.toList := by
  intro j v hv
  rw [Nat.zero_add, cell_of_row _ _ _ _ _ _ h]
  simpa using hv
theorem range_later6 {w w' : World} {b : Nat} {cs : List Value} (m : Made w w') (hb : b < w.heap.size) (h : w.rangeAt b 0 cs) : w'.rangeAt b 0 cs := fun j v hv => (m.cell (p := ⟨b, 0 + j, none⟩) hb).trans (h j v hv)
theorem S6_start {w0 : World} {b Bx : Nat} {cs : List Value} {v : Value} (h : w0.rangeAt b 0 cs) (hl : b < w0.heap.size) (hc : w0.cell? ⟨Bx, 0, none⟩ = some v) (hl2 : Bx < w0.heap.size) :
    w0.drew.rangeAt b 0 cs ∧ b < w0.drew.heap.size ∧ w0.drew.cell? ⟨Bx, 0, none⟩ = some v ∧ Bx < w0.drew.heap.size ∧ Made w0 w0.drew := ⟨h, hl, hc, hl2, Made.drewN w0 1⟩
theorem S6_call {w w1 w2 : World} {b Bx : Nat} {cs : List Value} {v : Value} (h : w1.rangeAt b 0 cs ∧ b < w1.heap.size ∧ w1.cell? ⟨Bx, 0, none⟩ = some v ∧ Bx < w1.heap.size ∧ Made w w1) (k : Made w1 w2) :
    w2.rangeAt b 0 cs ∧ b < w2.heap.size ∧ w2.cell? ⟨Bx, 0, none⟩ = some v ∧ Bx < w2.heap.size ∧ Made w w2 :=
  ⟨range_later6 k h.2.1 h.1, Nat.lt_of_lt_of_le h.2.1 k.size, (k.cell (p := ⟨Bx, 0, none⟩) h.2.2.2.1).trans h.2.2.1, Nat.lt_of_lt_of_le h.2.2.2.1 k.size, Made.trans h.2.2.2.2 k⟩
theorem alloc_set (w : World) (M : Array Value) : (w.alloc (.cells M 37)).heap[w.heap.size]? = some (.cells M 37 (0, 0)) := Go.heap_alloc_new w _

set_option maxRecDepth 100000 in
set_option maxHeartbeats 4000000 in
theorem tell_in (s n : Nat) (bt : Bool) (hn : n < 64) (a b : Int) (M : Array Value) (BT : Bool → Array Value) (WT : Bool → Nat) (BM : Array Value) (WM : Nat) (nx : Int) (P : Nat) (HF : Hid (Facts s (n : Int) a b M BT WT BM WM nx P))
    (HHAS : Hid (∀ w : World, Calls Try.prog 19 #[.int .u64 (s : Int), .int .i64 (n : Int)] w fun e w' => e = .returned (.bool bt) ∧ w = w')) (hM : M[n]? = some (.bool bt))
    (HEA : Hid (∀ (Bx : Nat) (w : World), Bx + 1 = w.heap.size → Boxed w Bx 32 (.slice none 0 0) → Calls Try.prog 28 #[.int .u64 (s : Int), .func (.func 29) #[] #[.pointer (some ⟨Bx, 0, none⟩)]] w fun e W' => (∃ r, e = .returned r) ∧ (∃ L lc, Boxed W' Bx 32 (.slice L P lc) ∧ Rd .i64 W' W'.heap.size L (slotsI s)) ∧ Below Bx w W'))
    (HP : Hid (P = (slotsI s).length)) (hP64 : P ≤ 64)
    (HLR : Hid (∀ w : World, Calls Try.prog 32 #[.agg M] w fun e w' => ∃ L lc, e = .returned (.slice L P lc) ∧ Rd .i64 w' w'.heap.size L (slotsI s) ∧ Made w w'))
    (HLS : Hid (∀ w : World, Calls Try.prog 23 #[.int .u64 (s : Int)] w fun e w' => ∃ L lc, e = .returned (.slice L P lc) ∧ Rd .i64 w' w'.heap.size L (slotsI s) ∧ Made w w')) (w : World) :
    Calls Try.prog 6 #[.int .u64 (s : Int), .int .i64 (n : Int), .int .i64 a, .int .i64 b] w fun e w' => e = .returned (.bool true) ∧ Made w w' := by
  have HSZ := Lib.hid szS
  have HSL := Lib.hid (fun w => Slot_c (n : Int) true (decide_eq_true (by omega)).symm w)
  change Hid (∀ w : World, Calls Try.prog 25 #[.int .i64 (n : Int)] w fun e w' => e = .returned (.bool true) ∧ w = w') at HSL
  have HM := Lib.hid hM
  have hn1 : (n : Int) < 64 := by omega
  clear hM
  go_enter Try.func6, Try.ntmps6
  go_wp2_with fail
  refine (speaks_c _).mono ?_
  rintro e w1 ⟨rfl, hm1⟩
  go_wp2_with fail
  refine (HF.out.of_ _).mono ?_
  rintro e w2 ⟨rfl, hm2⟩
  have hN2 := Made.trans hm1 hm2
  clear hm1 hm2
  go_wp2_with (first | (refine wpList_alloc_zero rfl 37 rfl Z64 alS ?_) | (refine wpList_store_row rfl 37 (.tmp 10) (.tmp 16) rfl w2.heap.size M (by simp [Act.eval, Act.put]) (by simp [Act.eval, Act.put]) 37 Z64 (alloc_set _ _) (by rw [HSZ.out, HF.out.len]) (by rw [HF.out.len]; rfl) HF.out.one ?_; rw [World.setRow_alloc_new]))
  have hS0 : Kept w [(w2.heap.size, .cells M 37 (0, 0))] (w2.alloc (.cells M 37)).drew := (Kept.cons (alloc_set w2 M) (Kept.nil (hN2.alloc hN2.size _))).drew
  generalize w2.heap.size = b3 at *
  haveI : Nonempty (Cls (Kept w [(b3, .cells M 37 (0, 0))])) := ⟨⟨_, hS0⟩⟩
  have f0 : ∀ m : Cls (Kept w [(b3, .cells M 37 (0, 0))]), m.val.cell? ⟨b3, n, none⟩ = some (.bool bt) := fun m => (cell_of_row _ _ _ _ _ _ (m.ok.at 0 rfl)).trans HM.out
  simp only [Act.put]
  refine wp_region_sub (Kept w [(b3, .cells M 37 (0, 0))]) (by kernel_rfl) (by kernel_rfl) hS0 ?_
  repeat (first | (refine wpQuiet_load_row (by simp [Region.wanted, yielded, Act.put]) 37 (.tmp 10) rfl b3 (by simp [Act.eval, Act.put]) 37 M (0, 0) _ (by rintro _ ⟨m, rfl⟩; exact m.ok.at 0 rfl) Try.underlying37 rfl (by rw [HSZ.out, HF.out.len]) ?_; simp only [Act.put, List.setIfInBounds_toArray, List.set_cons_succ, List.set_cons_zero]) | go_big_quiet_step (first | (go_at_call 19; exact Calls.sub ((HHAS.out _).mono fun e w' h => ⟨h.1, made_of_same h.2⟩) (fun _ h k => h.later k)) | (go_at_call 25; exact Calls.sub ((HSL.out _).mono fun e w' h => ⟨h.1, made_of_same h.2⟩) (fun _ h k => h.later k)) | (go_at_call 21; exact Calls.sub ((HF.out.with_ _).mono fun e w' h => ⟨h.1, made_of_same h.2⟩) (fun _ h k => h.later k)) | (go_at_call 20; exact Calls.sub ((HF.out.without _).mono fun e w' h => ⟨h.1, made_of_same h.2⟩) (fun _ h k => h.later k)) | (go_at_call 27; exact Calls.sub (HF.out.turn _ _) (fun _ h k => h.later k)) | (go_at_call 26; exact Calls.sub (HF.out.word _ _) (fun _ h k => h.later k))))
  refine wpQuiet_nil ?_
  rintro w7 ⟨m7, hm7⟩
  have hS7 : Kept w [(b3, .cells M 37 (0, 0))] w7 := hm7 ▸ m7.ok
  clear f0 hm7 m7 this hS0
  go_wp2_with fail
  refine (HEA.out w7.heap.size _ (by simp) (Boxed.new _ _ _)).mono ?_
  rintro e w8 ⟨⟨r8, rfl⟩, ⟨L, lc, hv8, hL8⟩, hB8⟩
  have hM8 : Made w7 w8 := Below.trans ((Made.refl w7).alloc (Nat.le_refl _) _) hB8
  have hS8 := hS7.later hM8
  have hN8 := hS8.md
  have HL8 := Lib.hid hL8
  have HV8 := Lib.hid hv8
  have hS8' : Kept w8 [(b3, .cells M 37 (0, 0))] w8.drew := (Kept.cons (hS8.at 0 rfl) (Kept.nil (Made.refl w8))).drew
  clear hB8 hM8 hS8 hS7 hL8 hv8
  generalize w7.heap.size = Bx at *
  go_wp2_with fail
  haveI : Nonempty (Cls (Kept w8 [(b3, .cells M 37 (0, 0))])) := ⟨⟨_, hS8'⟩⟩
  refine wp_region_sub (Kept w8 [(b3, .cells M 37 (0, 0))]) (by kernel_rfl) (by kernel_rfl) hS8' ?_
  repeat (first | (refine wpQuiet_load_row (by simp [Region.wanted, yielded, Act.put]) 37 (.tmp 10) rfl b3 (by simp [Act.eval, Act.put]) 37 M (0, 0) _ (by rintro _ ⟨m, rfl⟩; exact m.ok.at 0 rfl) Try.underlying37 rfl (by rw [HSZ.out, HF.out.len]) ?_; simp only [Act.put, List.setIfInBounds_toArray, List.set_cons_succ, List.set_cons_zero]) | go_big_quiet_step (first | (go_at_call 16; exact Calls.sub ((HF.out.btwS _).mono fun e w' h => ⟨h.1, made_of_same h.2⟩) (fun _ h k => h.later k)) | (go_at_call 30; exact Calls.sub (HF.out.btwR _) (fun _ h k => h.later k)) | (go_at_call 26; exact Calls.sub (HF.out.wordM _) (fun _ h k => h.later k)) | (go_at_call 18; exact Calls.sub ((HF.out.nextS _).mono fun e w' h => ⟨h.1, made_of_same h.2⟩) (fun _ h k => h.later k)) | (go_at_call 31; exact Calls.sub (HF.out.nextR _) (fun _ h k => h.later k))))
  refine wpQuiet_nil ?_
  rintro w9 ⟨m9, hm9⟩
  have hS9 : Kept w8 [(b3, .cells M 37 (0, 0))] w9 := hm9 ▸ m9.ok
  clear hm9 m9 this hS8'
  go_wp2_with fail
  have hS9r : w9.rangeAt b3 0 M.toList := range_row6 (hS9.at 0 rfl)
  have hl9 : b3 < w9.heap.size := (Array.getElem?_eq_some_iff.1 (hS9.at 0 rfl)).1
  have hx9 : w9.cell? ⟨Bx, 0, none⟩ = some (.slice L P lc) := (hS9.md.cell (p := ⟨Bx, 0, none⟩) HV8.out.lt).trans HV8.out.cell
  have hxl9 : Bx < w9.heap.size := Nat.lt_of_lt_of_le HV8.out.lt hS9.md.size
  have HL9 := Lib.hid ((HL8.out.later hS9.md).more hS9.md.size)
  have hN9 := Made.trans hN8 hS9.md
  clear hS9 HL8 HV8 hN8 HM
  obtain ⟨ML, hML⟩ : ∃ ML : List Value, ML.toArray = M := ⟨M.toList, by simp⟩
  subst hML
  have hs64 := HF.out.len
  have HI6 : Hid ((Try.prog.info? 37).map (·.size) = some ML.length) := by show _ = _; rw [HSZ.out]; simpa using hs64.symm
  have hu6 : Try.prog.underlying 37 = some (.array 64 4) := Try.underlying37
  clear hs64
  refine wp_region_held_drew (S := fun w' => w'.rangeAt b3 0 ML ∧ b3 < w'.heap.size ∧ w'.cell? ⟨Bx, 0, none⟩ = some (.slice L P lc) ∧ Bx < w'.heap.size ∧ Made w9 w') (by kernel_rfl) (S6_start (by simpa using hS9r) hl9 hx9 hxl9) (fun hHeld => ?_)
  refine wpAnyH_take (i := 0) (v := ?_) rfl (by kernel_rfl) (by kernel_rfl) (by kernel_rfl) (fun _ _ _ h => h) (Or.inl ⟨by rfl, ?_⟩) hHeld ?_
  rotate_left
  · intro w hSw
    go_simp
    try with_reducible rfl
  try simp only [List.getElem_toArray, List.getElem_cons_succ, List.getElem_cons_zero, Act.put, List.setIfInBounds_toArray, List.set_cons_zero, List.set_cons_succ]
  refine wpAnyH_take (i := 2) (v := .agg ML.toArray) rfl (by kernel_rfl) (by kernel_rfl) (by kernel_rfl) (fun _ _ _ h => h) (yieldsIf_load_mid (by rfl) 37 (.tmp 10) rfl b3 0 rfl ML _ (fun w hSw => hSw.1) hu6 rfl HI6.out) hHeld ?_
  try simp only [List.getElem_toArray, List.getElem_cons_succ, List.getElem_cons_zero, Act.put, List.setIfInBounds_toArray, List.set_cons_zero, List.set_cons_succ]
  refine wpAnyH_ready (rs := [1]) (by kernel_rfl) (by simp) ?_
  refine AllReadyH.cons (i := 1) rfl (fun K hK => ?_) AllReadyH.nil
  go_simp
  refine (HF.out.count _).mono ?_
  rintro e wx1 ⟨rfl, rfl⟩
  refine hK.out _ _ (hHeld) (fun hHeld => ?_)
  clear hK K
  try simp only [List.getElem_toArray, List.getElem_cons_succ, List.getElem_cons_zero, Act.put, List.setIfInBounds_toArray, List.set_cons_zero, List.set_cons_succ]
  refine wpAnyH_ready (rs := [3]) (by kernel_rfl) (by simp) ?_
  refine AllReadyH.cons (i := 3) rfl (fun K hK => ?_) AllReadyH.nil
  go_simp
  refine (HLR.out _).mono ?_
  rintro e wx3 ⟨L3, lc3, rfl, hR3, hMd3⟩
  refine hK.out _ _ (S6_call hHeld hMd3) (fun hHeld => ?_)
  clear hK K
  try simp only [List.getElem_toArray, List.getElem_cons_succ, List.getElem_cons_zero, Act.put, List.setIfInBounds_toArray, List.set_cons_zero, List.set_cons_succ]
  refine wpAnyH_take (i := 4) (v := ?_) rfl (by kernel_rfl) (by kernel_rfl) (by kernel_rfl) (fun _ _ _ h => h) (Or.inl ⟨by rfl, ?_⟩) hHeld ?_
  rotate_left
  · intro w hSw
    go_simp
    try with_reducible rfl
  try simp only [List.getElem_toArray, List.getElem_cons_succ, List.getElem_cons_zero, Act.put, List.setIfInBounds_toArray, List.set_cons_zero, List.set_cons_succ]
  refine wpAnyH_take (i := 5) (v := ?_) rfl (by kernel_rfl) (by kernel_rfl) (by kernel_rfl) (fun _ _ _ h => h) (Or.inl ⟨by rfl, ?_⟩) hHeld ?_
  rotate_left
  · intro w hSw
    go_simp
    try with_reducible rfl
  try simp only [List.getElem_toArray, List.getElem_cons_succ, List.getElem_cons_zero, Act.put, List.setIfInBounds_toArray, List.set_cons_zero, List.set_cons_succ]
  refine wpAnyH_take (i := 6) (v := ?_) rfl (by kernel_rfl) (by kernel_rfl) (by kernel_rfl) (fun _ _ _ h => h) (Or.inl ⟨by rfl, ?_⟩) hHeld ?_
  rotate_left
  · intro w hSw
    go_simp
    try with_reducible rfl
  try simp only [List.getElem_toArray, List.getElem_cons_succ, List.getElem_cons_zero, Act.put, List.setIfInBounds_toArray, List.set_cons_zero, List.set_cons_succ]
  refine wpAnyH_take (i := 7) (v := ?_) rfl (by kernel_rfl) (by kernel_rfl) (by kernel_rfl) (fun _ _ _ h => h) (Or.inl ⟨by rfl, ?_⟩) hHeld ?_
  rotate_left
  · intro w hSw
    go_simp
    try with_reducible rfl
  try simp only [List.getElem_toArray, List.getElem_cons_succ, List.getElem_cons_zero, Act.put, List.setIfInBounds_toArray, List.set_cons_zero, List.set_cons_succ]
  refine wpAnyH_take (i := 9) (v := .agg ML.toArray) rfl (by kernel_rfl) (by kernel_rfl) (by kernel_rfl) (fun _ _ _ h => h) (yieldsIf_load_mid (by rfl) 37 (.tmp 10) rfl b3 0 rfl ML _ (fun w hSw => hSw.1) hu6 rfl HI6.out) hHeld ?_
  try simp only [List.getElem_toArray, List.getElem_cons_succ, List.getElem_cons_zero, Act.put, List.setIfInBounds_toArray, List.set_cons_zero, List.set_cons_succ]
  refine wpAnyH_ready (rs := [8]) (by kernel_rfl) (by simp) ?_
  refine AllReadyH.cons (i := 8) rfl (fun K hK => ?_) AllReadyH.nil
  go_simp
  refine (HLS.out _).mono ?_
  rintro e wx8 ⟨L8, lc8, rfl, hR8, hMd8⟩
  refine hK.out _ _ (S6_call hHeld hMd8) (fun hHeld => ?_)
  clear hK K
  try simp only [List.getElem_toArray, List.getElem_cons_succ, List.getElem_cons_zero, Act.put, List.setIfInBounds_toArray, List.set_cons_zero, List.set_cons_succ]
  refine wpAnyH_ready (rs := [10]) (by kernel_rfl) (by simp) ?_
  refine AllReadyH.cons (i := 10) rfl (fun K hK => ?_) AllReadyH.nil
  go_simp
  refine (HLR.out _).mono ?_
  rintro e wx10 ⟨L10, lc10, rfl, hR10, hMd10⟩
  refine hK.out _ _ (S6_call hHeld hMd10) (fun hHeld => ?_)
  clear hK K
  try simp only [List.getElem_toArray, List.getElem_cons_succ, List.getElem_cons_zero, Act.put, List.setIfInBounds_toArray, List.set_cons_zero, List.set_cons_succ]
  refine wpAnyH_ready (rs := [11]) (by kernel_rfl) (by simp) ?_
  refine AllReadyH.cons (i := 11) rfl (fun K hK => ?_) AllReadyH.nil
  go_simp
  refine (Same_c (slotsI s) L8 L10 P lc8 lc10 HP.out (by omega) _ _ _ (hR8.later hMd10) hR10).mono ?_
  rintro e wx11 ⟨rfl, hMd11⟩
  refine hK.out _ _ (S6_call hHeld hMd11) (fun hHeld => ?_)
  clear hK K
  try simp only [List.getElem_toArray, List.getElem_cons_succ, List.getElem_cons_zero, Act.put, List.setIfInBounds_toArray, List.set_cons_zero, List.set_cons_succ]
  refine wpAnyH_take (i := 12) (v := ?_) rfl (by kernel_rfl) (by kernel_rfl) (by kernel_rfl) (fun _ _ _ h => h) (Or.inl ⟨by rfl, ?_⟩) hHeld ?_
  rotate_left
  · intro w hSw
    go_simp
    try with_reducible rfl
  try simp only [List.getElem_toArray, List.getElem_cons_succ, List.getElem_cons_zero, Act.put, List.setIfInBounds_toArray, List.set_cons_zero, List.set_cons_succ]
  refine wpAnyH_take (i := 13) (v := ?_) rfl (by kernel_rfl) (by kernel_rfl) (by kernel_rfl) (fun _ _ _ h => h) (Or.inl ⟨by rfl, ?_⟩) hHeld ?_
  rotate_left
  · intro w hSw
    go_simp
    try with_reducible rfl
  try simp only [List.getElem_toArray, List.getElem_cons_succ, List.getElem_cons_zero, Act.put, List.setIfInBounds_toArray, List.set_cons_zero, List.set_cons_succ]
  refine wpAnyH_take (i := 14) (v := .slice L P lc) rfl (by kernel_rfl) (by kernel_rfl) (by kernel_rfl) (fun _ _ _ h => h) (Or.inl ⟨by rfl, ?_⟩) hHeld ?_
  · intro w hSw
    have hcs := hSw.2.2.1
    go_simp
    try with_reducible rfl
  try simp only [List.getElem_toArray, List.getElem_cons_succ, List.getElem_cons_zero, Act.put, List.setIfInBounds_toArray, List.set_cons_zero, List.set_cons_succ]
  refine wpAnyH_take (i := 15) (v := .agg ML.toArray) rfl (by kernel_rfl) (by kernel_rfl) (by kernel_rfl) (fun _ _ _ h => h) (yieldsIf_load_mid (by rfl) 37 (.tmp 10) rfl b3 0 rfl ML _ (fun w hSw => hSw.1) hu6 rfl HI6.out) hHeld ?_
  try simp only [List.getElem_toArray, List.getElem_cons_succ, List.getElem_cons_zero, Act.put, List.setIfInBounds_toArray, List.set_cons_zero, List.set_cons_succ]
  refine wpAnyH_ready (rs := [16]) (by kernel_rfl) (by simp) ?_
  refine AllReadyH.cons (i := 16) rfl (fun K hK => ?_) AllReadyH.nil
  go_simp
  refine (HLR.out _).mono ?_
  rintro e wx16 ⟨L16, lc16, rfl, hR16, hMd16⟩
  refine hK.out _ _ (S6_call hHeld hMd16) (fun hHeld => ?_)
  clear hK K
  try simp only [List.getElem_toArray, List.getElem_cons_succ, List.getElem_cons_zero, Act.put, List.setIfInBounds_toArray, List.set_cons_zero, List.set_cons_succ]
  refine wpAnyH_ready (rs := [17]) (by kernel_rfl) (by simp) ?_
  refine AllReadyH.cons (i := 17) rfl (fun K hK => ?_) AllReadyH.nil
  go_simp
  refine (Same_c (slotsI s) L L16 P lc lc16 HP.out (by omega) _ _ _ (HL9.out.later hHeld.2.2.2.2) hR16).mono ?_
  rintro e wx17 ⟨rfl, hMd17⟩
  refine hK.out _ _ (S6_call hHeld hMd17) (fun hHeld => ?_)
  clear hK K
  try simp only [List.getElem_toArray, List.getElem_cons_succ, List.getElem_cons_zero, Act.put, List.setIfInBounds_toArray, List.set_cons_zero, List.set_cons_succ]
  refine wpAnyH_take (i := 18) (v := ?_) rfl (by kernel_rfl) (by kernel_rfl) (by kernel_rfl) (fun _ _ _ h => h) (Or.inl ⟨by rfl, ?_⟩) hHeld ?_
  rotate_left
  · intro w hSw
    go_simp
    try with_reducible rfl
  try simp only [List.getElem_toArray, List.getElem_cons_succ, List.getElem_cons_zero, Act.put, List.setIfInBounds_toArray, List.set_cons_zero, List.set_cons_succ]
  refine wpAnyH_take (i := 19) (v := ?_) rfl (by kernel_rfl) (by kernel_rfl) (by kernel_rfl) (fun _ _ _ h => h) (Or.inl ⟨by rfl, ?_⟩) hHeld ?_
  rotate_left
  · intro w hSw
    go_simp
    try with_reducible rfl
  try simp only [List.getElem_toArray, List.getElem_cons_succ, List.getElem_cons_zero, Act.put, List.setIfInBounds_toArray, List.set_cons_zero, List.set_cons_succ]
  refine wpAnyH_done (by kernel_rfl) ?_ _
  go_wp2_with fail
  go_ret
  exact ⟨rfl, Made.trans hN9 hHeld.2.2.2.2⟩
set_option maxRecDepth 100000 in
set_option maxHeartbeats 4000000 in
theorem tell_out (s : Nat) (i : Int) (hi : ¬ (0 ≤ i ∧ i < 64)) (a b : Int) (M : Array Value) (BT : Bool → Array Value) (WT : Bool → Nat) (BM : Array Value) (WM : Nat) (nx : Int) (P : Nat) (HF : Hid (Facts s i a b M BT WT BM WM nx P))
    (HHAS : Hid (∀ w : World, Calls Try.prog 19 #[.int .u64 (s : Int), .int .i64 i] w fun e w' => e = .returned (.bool false) ∧ w = w'))
    (HEA : Hid (∀ (Bx : Nat) (w : World), Bx + 1 = w.heap.size → Boxed w Bx 32 (.slice none 0 0) → Calls Try.prog 28 #[.int .u64 (s : Int), .func (.func 29) #[] #[.pointer (some ⟨Bx, 0, none⟩)]] w fun e W' => (∃ r, e = .returned r) ∧ (∃ L lc, Boxed W' Bx 32 (.slice L P lc) ∧ Rd .i64 W' W'.heap.size L (slotsI s)) ∧ Below Bx w W'))
    (HP : Hid (P = (slotsI s).length)) (hP64 : P ≤ 64)
    (HLR : Hid (∀ w : World, Calls Try.prog 32 #[.agg M] w fun e w' => ∃ L lc, e = .returned (.slice L P lc) ∧ Rd .i64 w' w'.heap.size L (slotsI s) ∧ Made w w'))
    (HLS : Hid (∀ w : World, Calls Try.prog 23 #[.int .u64 (s : Int)] w fun e w' => ∃ L lc, e = .returned (.slice L P lc) ∧ Rd .i64 w' w'.heap.size L (slotsI s) ∧ Made w w')) (w : World) :
    Calls Try.prog 6 #[.int .u64 (s : Int), .int .i64 i, .int .i64 a, .int .i64 b] w fun e w' => e = .returned (.bool true) ∧ Made w w' := by
  have HSZ := Lib.hid szS
  have HSL := Lib.hid (fun w => Slot_c i false (decide_eq_false hi).symm w)
  change Hid (∀ w : World, Calls Try.prog 25 #[.int .i64 i] w fun e w' => e = .returned (.bool false) ∧ w = w') at HSL
  clear hi
  go_enter Try.func6, Try.ntmps6
  go_wp2_with fail
  refine (speaks_c _).mono ?_
  rintro e w1 ⟨rfl, hm1⟩
  go_wp2_with fail
  refine (HF.out.of_ _).mono ?_
  rintro e w2 ⟨rfl, hm2⟩
  have hN2 := Made.trans hm1 hm2
  clear hm1 hm2
  go_wp2_with (first | (refine wpList_alloc_zero rfl 37 rfl Z64 alS ?_) | (refine wpList_store_row rfl 37 (.tmp 10) (.tmp 16) rfl w2.heap.size M (by simp [Act.eval, Act.put]) (by simp [Act.eval, Act.put]) 37 Z64 (alloc_set _ _) (by rw [HSZ.out, HF.out.len]) (by rw [HF.out.len]; rfl) HF.out.one ?_; rw [World.setRow_alloc_new]))
  have hS0 : Kept w [(w2.heap.size, .cells M 37 (0, 0))] (w2.alloc (.cells M 37)).drew := (Kept.cons (alloc_set w2 M) (Kept.nil (hN2.alloc hN2.size _))).drew
  generalize w2.heap.size = b3 at *
  haveI : Nonempty (Cls (Kept w [(b3, .cells M 37 (0, 0))])) := ⟨⟨_, hS0⟩⟩
  simp only [Act.put]
  refine wp_region_sub (Kept w [(b3, .cells M 37 (0, 0))]) (by kernel_rfl) (by kernel_rfl) hS0 ?_
  repeat (first | (refine wpQuiet_load_row (by simp [Region.wanted, yielded, Act.put]) 37 (.tmp 10) rfl b3 (by simp [Act.eval, Act.put]) 37 M (0, 0) _ (by rintro _ ⟨m, rfl⟩; exact m.ok.at 0 rfl) Try.underlying37 rfl (by rw [HSZ.out, HF.out.len]) ?_; simp only [Act.put, List.setIfInBounds_toArray, List.set_cons_succ, List.set_cons_zero]) | go_big_quiet_step (first | (go_at_call 19; exact Calls.sub ((HHAS.out _).mono fun e w' h => ⟨h.1, made_of_same h.2⟩) (fun _ h k => h.later k)) | (go_at_call 25; exact Calls.sub ((HSL.out _).mono fun e w' h => ⟨h.1, made_of_same h.2⟩) (fun _ h k => h.later k)) | (go_at_call 21; exact Calls.sub ((HF.out.with_ _).mono fun e w' h => ⟨h.1, made_of_same h.2⟩) (fun _ h k => h.later k)) | (go_at_call 20; exact Calls.sub ((HF.out.without _).mono fun e w' h => ⟨h.1, made_of_same h.2⟩) (fun _ h k => h.later k)) | (go_at_call 27; exact Calls.sub (HF.out.turn _ _) (fun _ h k => h.later k)) | (go_at_call 26; exact Calls.sub (HF.out.word _ _) (fun _ h k => h.later k))))
  refine wpQuiet_nil ?_
  rintro w7 ⟨m7, hm7⟩
  have hS7 : Kept w [(b3, .cells M 37 (0, 0))] w7 := hm7 ▸ m7.ok
  clear hm7 m7 this hS0
  go_wp2_with fail
  refine (HEA.out w7.heap.size _ (by simp) (Boxed.new _ _ _)).mono ?_
  rintro e w8 ⟨⟨r8, rfl⟩, ⟨L, lc, hv8, hL8⟩, hB8⟩
  have hM8 : Made w7 w8 := Below.trans ((Made.refl w7).alloc (Nat.le_refl _) _) hB8
  have hS8 := hS7.later hM8
  have hN8 := hS8.md
  have HL8 := Lib.hid hL8
  have HV8 := Lib.hid hv8
  have hS8' : Kept w8 [(b3, .cells M 37 (0, 0))] w8.drew := (Kept.cons (hS8.at 0 rfl) (Kept.nil (Made.refl w8))).drew
  clear hB8 hM8 hS8 hS7 hL8 hv8
  generalize w7.heap.size = Bx at *
  go_wp2_with fail
  haveI : Nonempty (Cls (Kept w8 [(b3, .cells M 37 (0, 0))])) := ⟨⟨_, hS8'⟩⟩
  refine wp_region_sub (Kept w8 [(b3, .cells M 37 (0, 0))]) (by kernel_rfl) (by kernel_rfl) hS8' ?_
  repeat (first | (refine wpQuiet_load_row (by simp [Region.wanted, yielded, Act.put]) 37 (.tmp 10) rfl b3 (by simp [Act.eval, Act.put]) 37 M (0, 0) _ (by rintro _ ⟨m, rfl⟩; exact m.ok.at 0 rfl) Try.underlying37 rfl (by rw [HSZ.out, HF.out.len]) ?_; simp only [Act.put, List.setIfInBounds_toArray, List.set_cons_succ, List.set_cons_zero]) | go_big_quiet_step (first | (go_at_call 16; exact Calls.sub ((HF.out.btwS _).mono fun e w' h => ⟨h.1, made_of_same h.2⟩) (fun _ h k => h.later k)) | (go_at_call 30; exact Calls.sub (HF.out.btwR _) (fun _ h k => h.later k)) | (go_at_call 26; exact Calls.sub (HF.out.wordM _) (fun _ h k => h.later k)) | (go_at_call 18; exact Calls.sub ((HF.out.nextS _).mono fun e w' h => ⟨h.1, made_of_same h.2⟩) (fun _ h k => h.later k)) | (go_at_call 31; exact Calls.sub (HF.out.nextR _) (fun _ h k => h.later k))))
  refine wpQuiet_nil ?_
  rintro w9 ⟨m9, hm9⟩
  have hS9 : Kept w8 [(b3, .cells M 37 (0, 0))] w9 := hm9 ▸ m9.ok
  clear hm9 m9 this hS8'
  go_wp2_with fail
  have hS9r : w9.rangeAt b3 0 M.toList := range_row6 (hS9.at 0 rfl)
  have hl9 : b3 < w9.heap.size := (Array.getElem?_eq_some_iff.1 (hS9.at 0 rfl)).1
  have hx9 : w9.cell? ⟨Bx, 0, none⟩ = some (.slice L P lc) := (hS9.md.cell (p := ⟨Bx, 0, none⟩) HV8.out.lt).trans HV8.out.cell
  have hxl9 : Bx < w9.heap.size := Nat.lt_of_lt_of_le HV8.out.lt hS9.md.size
  have HL9 := Lib.hid ((HL8.out.later hS9.md).more hS9.md.size)
  have hN9 := Made.trans hN8 hS9.md
  clear hS9 HL8 HV8 hN8
  obtain ⟨ML, hML⟩ : ∃ ML : List Value, ML.toArray = M := ⟨M.toList, by simp⟩
  subst hML
  have hs64 := HF.out.len
  have HI6 : Hid ((Try.prog.info? 37).map (·.size) = some ML.length) := by show _ = _; rw [HSZ.out]; simpa using hs64.symm
  have hu6 : Try.prog.underlying 37 = some (.array 64 4) := Try.underlying37
  clear hs64
  refine wp_region_held_drew (S := fun w' => w'.rangeAt b3 0 ML ∧ b3 < w'.heap.size ∧ w'.cell? ⟨Bx, 0, none⟩ = some (.slice L P lc) ∧ Bx < w'.heap.size ∧ Made w9 w') (by kernel_rfl) (S6_start (by simpa using hS9r) hl9 hx9 hxl9) (fun hHeld => ?_)
  refine wpAnyH_take (i := 0) (v := ?_) rfl (by kernel_rfl) (by kernel_rfl) (by kernel_rfl) (fun _ _ _ h => h) (Or.inl ⟨by rfl, ?_⟩) hHeld ?_
  rotate_left
  · intro w hSw
    go_simp
    try with_reducible rfl
  try simp only [List.getElem_toArray, List.getElem_cons_succ, List.getElem_cons_zero, Act.put, List.setIfInBounds_toArray, List.set_cons_zero, List.set_cons_succ]
  refine wpAnyH_take (i := 2) (v := .agg ML.toArray) rfl (by kernel_rfl) (by kernel_rfl) (by kernel_rfl) (fun _ _ _ h => h) (yieldsIf_load_mid (by rfl) 37 (.tmp 10) rfl b3 0 rfl ML _ (fun w hSw => hSw.1) hu6 rfl HI6.out) hHeld ?_
  try simp only [List.getElem_toArray, List.getElem_cons_succ, List.getElem_cons_zero, Act.put, List.setIfInBounds_toArray, List.set_cons_zero, List.set_cons_succ]
  refine wpAnyH_ready (rs := [1]) (by kernel_rfl) (by simp) ?_
  refine AllReadyH.cons (i := 1) rfl (fun K hK => ?_) AllReadyH.nil
  go_simp
  refine (HF.out.count _).mono ?_
  rintro e wx1 ⟨rfl, rfl⟩
  refine hK.out _ _ (hHeld) (fun hHeld => ?_)
  clear hK K
  try simp only [List.getElem_toArray, List.getElem_cons_succ, List.getElem_cons_zero, Act.put, List.setIfInBounds_toArray, List.set_cons_zero, List.set_cons_succ]
  refine wpAnyH_ready (rs := [3]) (by kernel_rfl) (by simp) ?_
  refine AllReadyH.cons (i := 3) rfl (fun K hK => ?_) AllReadyH.nil
  go_simp
  refine (HLR.out _).mono ?_
  rintro e wx3 ⟨L3, lc3, rfl, hR3, hMd3⟩
  refine hK.out _ _ (S6_call hHeld hMd3) (fun hHeld => ?_)
  clear hK K
  try simp only [List.getElem_toArray, List.getElem_cons_succ, List.getElem_cons_zero, Act.put, List.setIfInBounds_toArray, List.set_cons_zero, List.set_cons_succ]
  refine wpAnyH_take (i := 4) (v := ?_) rfl (by kernel_rfl) (by kernel_rfl) (by kernel_rfl) (fun _ _ _ h => h) (Or.inl ⟨by rfl, ?_⟩) hHeld ?_
  rotate_left
  · intro w hSw
    go_simp
    try with_reducible rfl
  try simp only [List.getElem_toArray, List.getElem_cons_succ, List.getElem_cons_zero, Act.put, List.setIfInBounds_toArray, List.set_cons_zero, List.set_cons_succ]
  refine wpAnyH_take (i := 5) (v := ?_) rfl (by kernel_rfl) (by kernel_rfl) (by kernel_rfl) (fun _ _ _ h => h) (Or.inl ⟨by rfl, ?_⟩) hHeld ?_
  rotate_left
  · intro w hSw
    go_simp
    try with_reducible rfl
  try simp only [List.getElem_toArray, List.getElem_cons_succ, List.getElem_cons_zero, Act.put, List.setIfInBounds_toArray, List.set_cons_zero, List.set_cons_succ]
  refine wpAnyH_take (i := 6) (v := ?_) rfl (by kernel_rfl) (by kernel_rfl) (by kernel_rfl) (fun _ _ _ h => h) (Or.inl ⟨by rfl, ?_⟩) hHeld ?_
  rotate_left
  · intro w hSw
    go_simp
    try with_reducible rfl
  try simp only [List.getElem_toArray, List.getElem_cons_succ, List.getElem_cons_zero, Act.put, List.setIfInBounds_toArray, List.set_cons_zero, List.set_cons_succ]
  refine wpAnyH_take (i := 7) (v := ?_) rfl (by kernel_rfl) (by kernel_rfl) (by kernel_rfl) (fun _ _ _ h => h) (Or.inl ⟨by rfl, ?_⟩) hHeld ?_
  rotate_left
  · intro w hSw
    go_simp
    try with_reducible rfl
  try simp only [List.getElem_toArray, List.getElem_cons_succ, List.getElem_cons_zero, Act.put, List.setIfInBounds_toArray, List.set_cons_zero, List.set_cons_succ]
  refine wpAnyH_take (i := 9) (v := .agg ML.toArray) rfl (by kernel_rfl) (by kernel_rfl) (by kernel_rfl) (fun _ _ _ h => h) (yieldsIf_load_mid (by rfl) 37 (.tmp 10) rfl b3 0 rfl ML _ (fun w hSw => hSw.1) hu6 rfl HI6.out) hHeld ?_
  try simp only [List.getElem_toArray, List.getElem_cons_succ, List.getElem_cons_zero, Act.put, List.setIfInBounds_toArray, List.set_cons_zero, List.set_cons_succ]
  refine wpAnyH_ready (rs := [8]) (by kernel_rfl) (by simp) ?_
  refine AllReadyH.cons (i := 8) rfl (fun K hK => ?_) AllReadyH.nil
  go_simp
  refine (HLS.out _).mono ?_
  rintro e wx8 ⟨L8, lc8, rfl, hR8, hMd8⟩
  refine hK.out _ _ (S6_call hHeld hMd8) (fun hHeld => ?_)
  clear hK K
  try simp only [List.getElem_toArray, List.getElem_cons_succ, List.getElem_cons_zero, Act.put, List.setIfInBounds_toArray, List.set_cons_zero, List.set_cons_succ]
  refine wpAnyH_ready (rs := [10]) (by kernel_rfl) (by simp) ?_
  refine AllReadyH.cons (i := 10) rfl (fun K hK => ?_) AllReadyH.nil
  go_simp
  refine (HLR.out _).mono ?_
  rintro e wx10 ⟨L10, lc10, rfl, hR10, hMd10⟩
  refine hK.out _ _ (S6_call hHeld hMd10) (fun hHeld => ?_)
  clear hK K
  try simp only [List.getElem_toArray, List.getElem_cons_succ, List.getElem_cons_zero, Act.put, List.setIfInBounds_toArray, List.set_cons_zero, List.set_cons_succ]
  refine wpAnyH_ready (rs := [11]) (by kernel_rfl) (by simp) ?_
  refine AllReadyH.cons (i := 11) rfl (fun K hK => ?_) AllReadyH.nil
  go_simp
  refine (Same_c (slotsI s) L8 L10 P lc8 lc10 HP.out (by omega) _ _ _ (hR8.later hMd10) hR10).mono ?_
  rintro e wx11 ⟨rfl, hMd11⟩
  refine hK.out _ _ (S6_call hHeld hMd11) (fun hHeld => ?_)
  clear hK K
  try simp only [List.getElem_toArray, List.getElem_cons_succ, List.getElem_cons_zero, Act.put, List.setIfInBounds_toArray, List.set_cons_zero, List.set_cons_succ]
  refine wpAnyH_take (i := 12) (v := ?_) rfl (by kernel_rfl) (by kernel_rfl) (by kernel_rfl) (fun _ _ _ h => h) (Or.inl ⟨by rfl, ?_⟩) hHeld ?_
  rotate_left
  · intro w hSw
    go_simp
    try with_reducible rfl
  try simp only [List.getElem_toArray, List.getElem_cons_succ, List.getElem_cons_zero, Act.put, List.setIfInBounds_toArray, List.set_cons_zero, List.set_cons_succ]
  refine wpAnyH_take (i := 13) (v := ?_) rfl (by kernel_rfl) (by kernel_rfl) (by kernel_rfl) (fun _ _ _ h => h) (Or.inl ⟨by rfl, ?_⟩) hHeld ?_
  rotate_left
  · intro w hSw
    go_simp
    try with_reducible rfl
  try simp only [List.getElem_toArray, List.getElem_cons_succ, List.getElem_cons_zero, Act.put, List.setIfInBounds_toArray, List.set_cons_zero, List.set_cons_succ]
  refine wpAnyH_take (i := 14) (v := .slice L P lc) rfl (by kernel_rfl) (by kernel_rfl) (by kernel_rfl) (fun _ _ _ h => h) (Or.inl ⟨by rfl, ?_⟩) hHeld ?_
  · intro w hSw
    have hcs := hSw.2.2.1
    go_simp
    try with_reducible rfl
  try simp only [List.getElem_toArray, List.getElem_cons_succ, List.getElem_cons_zero, Act.put, List.setIfInBounds_toArray, List.set_cons_zero, List.set_cons_succ]
  refine wpAnyH_take (i := 15) (v := .agg ML.toArray) rfl (by kernel_rfl) (by kernel_rfl) (by kernel_rfl) (fun _ _ _ h => h) (yieldsIf_load_mid (by rfl) 37 (.tmp 10) rfl b3 0 rfl ML _ (fun w hSw => hSw.1) hu6 rfl HI6.out) hHeld ?_
  try simp only [List.getElem_toArray, List.getElem_cons_succ, List.getElem_cons_zero, Act.put, List.setIfInBounds_toArray, List.set_cons_zero, List.set_cons_succ]
  refine wpAnyH_ready (rs := [16]) (by kernel_rfl) (by simp) ?_
  refine AllReadyH.cons (i := 16) rfl (fun K hK => ?_) AllReadyH.nil
  go_simp
  refine (HLR.out _).mono ?_
  rintro e wx16 ⟨L16, lc16, rfl, hR16, hMd16⟩
  refine hK.out _ _ (S6_call hHeld hMd16) (fun hHeld => ?_)
  clear hK K
  try simp only [List.getElem_toArray, List.getElem_cons_succ, List.getElem_cons_zero, Act.put, List.setIfInBounds_toArray, List.set_cons_zero, List.set_cons_succ]
  refine wpAnyH_ready (rs := [17]) (by kernel_rfl) (by simp) ?_
  refine AllReadyH.cons (i := 17) rfl (fun K hK => ?_) AllReadyH.nil
  go_simp
  refine (Same_c (slotsI s) L L16 P lc lc16 HP.out (by omega) _ _ _ (HL9.out.later hHeld.2.2.2.2) hR16).mono ?_
  rintro e wx17 ⟨rfl, hMd17⟩
  refine hK.out _ _ (S6_call hHeld hMd17) (fun hHeld => ?_)
  clear hK K
  try simp only [List.getElem_toArray, List.getElem_cons_succ, List.getElem_cons_zero, Act.put, List.setIfInBounds_toArray, List.set_cons_zero, List.set_cons_succ]
  refine wpAnyH_take (i := 18) (v := ?_) rfl (by kernel_rfl) (by kernel_rfl) (by kernel_rfl) (fun _ _ _ h => h) (Or.inl ⟨by rfl, ?_⟩) hHeld ?_
  rotate_left
  · intro w hSw
    go_simp
    try with_reducible rfl
  try simp only [List.getElem_toArray, List.getElem_cons_succ, List.getElem_cons_zero, Act.put, List.setIfInBounds_toArray, List.set_cons_zero, List.set_cons_succ]
  refine wpAnyH_take (i := 19) (v := ?_) rfl (by kernel_rfl) (by kernel_rfl) (by kernel_rfl) (fun _ _ _ h => h) (Or.inl ⟨by rfl, ?_⟩) hHeld ?_
  rotate_left
  · intro w hSw
    go_simp
    try with_reducible rfl
  try simp only [List.getElem_toArray, List.getElem_cons_succ, List.getElem_cons_zero, Act.put, List.setIfInBounds_toArray, List.set_cons_zero, List.set_cons_succ]
  refine wpAnyH_done (by kernel_rfl) ?_ _
  go_wp2_with fail
  go_ret
  exact ⟨rfl, Made.trans hN9 hHeld.2.2.2.2⟩

end Go.Proofs.Ythllplocbciepaa.Tell
