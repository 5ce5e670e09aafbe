/- Package knelllaw03, walked: PlanNone. -/
import Derived.Test.YtnkcekgjppkbpaaLaw3
import Derived.Test.YtnkcekgjppkbpaaPlan7
namespace Go.Proofs.Ytnkcekgjppkbpaa.Law3
open Go.RowKit Go.Proofs.Ytnkcekgjppkbpaa Go.Proofs.Ytnkcekgjppkbpaa.PlanN Go.Proofs.Ytnkcekgjppkbpaa.Plan
set_option linter.unusedVariables false
set_option linter.unusedSimpArgs false

/-- There is a place just if there is the thing. -/
structure Good (b : Bool) (x : Int) : Prop where
  yes : b = true → 0 ≤ x
  no : b = false → x = -1
theorem good_among {base i many apart : Int} (hb : 0 ≤ base) (ha : 0 ≤ apart) : Good (decide (0 ≤ i) && decide (i < many)) (amongI base i many apart) := by
  unfold amongI
  by_cases h : 0 ≤ i ∧ i < many
  · rw [if_neg (by omega)]
    refine ⟨fun _ => ?_, fun hn => ?_⟩
    · have : 0 ≤ i * apart := Int.mul_nonneg h.1 ha
      omega
    · simp [h.1, h.2] at hn
  · rw [if_pos (by omega)]
    refine ⟨fun hy => ?_, fun _ => rfl⟩
    simp at hy
    omega
theorem good_within {b : Bool} {base far : Int} (h : Good b base) (hf : 0 ≤ far) : Good b (withinI base far) := by
  unfold withinI
  cases b
  · have := h.no rfl
    rw [if_pos (by omega)]
    exact ⟨fun hn => by (cases hn), fun _ => rfl⟩
  · have := h.yes rfl
    rw [if_neg (by omega)]
    exact ⟨fun _ => by omega, fun hn => by (cases hn)⟩
theorem good_within2 {b c : Bool} {base far : Int} (h : Good b base) (hf : Good c far) : Good (b && c) (withinI base far) := by
  unfold withinI
  cases b
  · have := h.no rfl
    rw [if_pos (by omega)]
    exact ⟨fun hn => by (cases hn), fun _ => rfl⟩
  · have h1 := h.yes rfl
    cases c
    · have := hf.no rfl
      rw [if_pos (by omega)]
      exact ⟨fun hn => by (cases hn), fun _ => rfl⟩
    · have := hf.yes rfl
      rw [if_neg (by omega)]
      exact ⟨fun _ => by omega, fun hn => by (cases hn)⟩

theorem seven (A : World) (o0 o1 o2 o3 o4 o5 o6 : Obj) (w : World) (hw : w.heap = (((((((A.alloc o0).alloc o1).alloc o2).alloc o3).alloc o4).alloc o5).alloc o6).heap) :
    w.heap[A.heap.size]? = some o0 ∧ w.heap[A.heap.size + 1]? = some o1 ∧ w.heap[A.heap.size + 2]? = some o2 ∧ w.heap[A.heap.size + 3]? = some o3 ∧ w.heap[A.heap.size + 4]? = some o4 ∧ w.heap[A.heap.size + 5]? = some o5 ∧ w.heap[A.heap.size + 6]? = some o6 := by
  rw [hw]
  have e : ∀ (W : World) (o : Obj) (k : Nat), (W.alloc o).heap[k]? = if k = W.heap.size then some o else W.heap[k]? := fun W o k => by
    show (W.heap.push o)[k]? = _
    rw [Array.getElem?_push]
  have s : ∀ (W : World) (o : Obj), (W.alloc o).heap.size = W.heap.size + 1 := fun W o => World.size_alloc W o
  refine ⟨?_, ?_, ?_, ?_, ?_, ?_, ?_⟩ <;> simp only [e, s] <;> repeat (first | rw [if_pos (by omega)] | rw [if_neg (by omega)] | rw [if_pos trivial])

/-- What the statement asks of: the lists of places, and whether there are these things. -/
def XL (xs : List Int) (s k i n : Int) (r : Nat) : List Int :=
  if r = 0 then [atI xs s, withinI (atI xs s) 1, withinI (atI xs s) 2] else if r = 1 then [mapI xs s k] else if r = 2 then [slotI xs s k i]
  else if r = 3 then [nodeI xs n 0, nodeI xs n 1, nodeI xs n 2, nodeI xs n 3] else if r = 4 then [ticketI xs n 0, ticketI xs n 1, ticketI xs n 2] else [connI xs n]
def TL (xs : List Int) (s k i n : Int) (r : Nat) : Bool :=
  if r = 0 then decide (0 ≤ s) && decide (s < xs.getD 0 0) else if r = 1 then (decide (0 ≤ s) && decide (s < xs.getD 0 0)) && (decide (0 ≤ k) && decide (k < xs.getD 1 0))
  else if r = 2 then ((decide (0 ≤ s) && decide (s < xs.getD 0 0)) && (decide (0 ≤ k) && decide (k < xs.getD 1 0))) && (decide (0 ≤ i) && decide (i < slots xs))
  else if r = 3 then decide (0 ≤ n) && decide (n < xs.getD 3 0) else if r = 4 then decide (0 ≤ n) && decide (n < xs.getD 4 0) else decide (0 ≤ n) && decide (n < xs.getD 7 0)
theorem all_good {xs : List Int} (hr : Rgt xs) (s k i n : Int) (r : Nat) (hr6 : r < 6) (x : Int) (hx : x ∈ XL xs s k i n r) : Good (TL xs s k i n r) x := by
  have HG := rng hr
  have ga : Good (decide (0 ≤ s) && decide (s < xs.getD 0 0)) (atI xs s) := good_among (by omega) (by have := HG.sh; omega)
  have gm := good_within2 ga (good_among (base := 3) (i := k) (many := xs.getD 1 0) (apart := 1 + slots xs) (by omega) (by have := HG.s; omega))
  have gs := good_within2 gm (good_among (base := 1) (i := i) (many := slots xs) (apart := 1) (by omega) (by omega))
  have gn : ∀ j : Int, 0 ≤ j → Good (decide (0 ≤ n) && decide (n < xs.getD 3 0)) (nodeI xs n j) := fun j hj => good_within (good_among (by have := HG.nd; omega) (by omega)) hj
  have gt : ∀ j : Int, 0 ≤ j → Good (decide (0 ≤ n) && decide (n < xs.getD 4 0)) (ticketI xs n j) := fun j hj => good_within (good_among (by have := HG.tk; omega) (by omega)) hj
  have gc : Good (decide (0 ≤ n) && decide (n < xs.getD 7 0)) (connI xs n) := good_among (by have := HG.cn; omega) (by omega)
  have h6 : r = 0 ∨ r = 1 ∨ r = 2 ∨ r = 3 ∨ r = 4 ∨ r = 5 := by omega
  rcases h6 with rfl | rfl | rfl | rfl | rfl | rfl
  · simp only [XL, if_true, List.mem_cons, List.not_mem_nil, or_false] at hx
    rcases hx with rfl | rfl | rfl
    · exact ga
    · exact good_within ga (by omega)
    · exact good_within ga (by omega)
  · have : x = mapI xs s k := by simpa [XL] using hx
    subst this; exact gm
  · have : x = slotI xs s k i := by simpa [XL] using hx
    subst this; exact gs
  · have : x = nodeI xs n 0 ∨ x = nodeI xs n 1 ∨ x = nodeI xs n 2 ∨ x = nodeI xs n 3 := by simpa [XL] using hx
    rcases this with rfl | rfl | rfl | rfl <;> exact gn _ (by omega)
  · have : x = ticketI xs n 0 ∨ x = ticketI xs n 1 ∨ x = ticketI xs n 2 := by simpa [XL] using hx
    rcases this with rfl | rfl | rfl <;> exact gt _ (by omega)
  · have : x = connI xs n := by simpa [XL] using hx
    subst this; exact gc

set_option maxRecDepth 100000 in
set_option maxHeartbeats 1000000 in
theorem none_wrong (xs : List Int) (s k i n : Int) (w : World) (h : xs.length = 13) (hr : ¬ (chk xs).2 = 0) :
    Calls Try.prog 9 #[.agg (row xs), .int .i64 s, .int .i64 k, .int .i64 i, .int .i64 n] w fun e w' => e = .returned (.bool true) ∧ Made w w' := by
  have HR := Lib.hid (Right_c xs h false (by simp [hr]))
  have HZ := Lib.hid (show (Try.prog.info? 23).map (·.size) = some 13 by kernel_rfl)
  have HS := Lib.hid (row_size h)
  change Hid (∀ w : World, Calls Try.prog 14 #[.agg (row xs)] w _) at HR
  go_enter Try.func9, Try.ntmps9
  go_wp2_with fail
  refine (speaks_c _).mono ?_
  rintro e w1 ⟨rfl, hM1⟩
  have H1 := (at_start w xs 23).later hM1
  have hM := Made.trans ((Made.refl w).alloc (Nat.le_refl _) _) hM1
  clear hM1
  go_wp2_with (refine wpList_load_row_g (by simp [Region.wanted, yielded, Act.put]) 23 (.tmp 5) rfl w.heap.size (by simp [Act.eval, Act.put]) 23 (row xs) (0, 0) _ H1.out Try.underlying23 rfl (by rw [HS.out]; exact HZ.out) ?_)
  refine (HR.out _).mono ?_
  rintro e w2 ⟨rfl, hM2⟩
  go_wp2_with fail
  refine (speaks_c _).mono ?_
  rintro e w3 ⟨rfl, hM3⟩
  go_wp2_with fail
  go_ret
  exact ⟨rfl, Made.trans hM (Made.trans hM2 hM3)⟩

def Mem (xs : List Int) (s k i n : Int) (b : Nat) (wr : World) : Prop := (∀ r, r < 6 → wr.heap[b + r]? = some (.cells (row (XL xs s k i n r)) 3 (0, 0))) ∧
  wr.heap[b + 6]? = some (.cells #[.slice (some ⟨b, 0, none⟩) 3 3, .slice (some ⟨b + 1, 0, none⟩) 1 1, .slice (some ⟨b + 2, 0, none⟩) 1 1, .slice (some ⟨b + 3, 0, none⟩) 4 4, .slice (some ⟨b + 4, 0, none⟩) 3 3, .slice (some ⟨b + 5, 0, none⟩) 1 1] 64 (0, 0))
theorem six {r : Nat} (h : r < 6) : r = 0 ∨ r = 1 ∨ r = 2 ∨ r = 3 ∨ r = 4 ∨ r = 5 := by omega
theorem mem_start (xs : List Int) (s k i n : Int) (A w : World) (hw : w.heap = (((((((A.alloc (.cells #[.int .i64 (atI xs s), .int .i64 (withinI (atI xs s) 1), .int .i64 (withinI (atI xs s) 2)] 3)).alloc (.cells #[.int .i64 (mapI xs s k)] 3)).alloc (.cells #[.int .i64 (slotI xs s k i)] 3)).alloc
    (.cells #[.int .i64 (nodeI xs n 0), .int .i64 (nodeI xs n 1), .int .i64 (nodeI xs n 2), .int .i64 (nodeI xs n 3)] 3)).alloc (.cells #[.int .i64 (ticketI xs n 0), .int .i64 (ticketI xs n 1), .int .i64 (ticketI xs n 2)] 3)).alloc (.cells #[.int .i64 (connI xs n)] 3)).alloc
    (.cells #[.slice (some ⟨A.heap.size, 0, none⟩) 3 3, .slice (some ⟨A.heap.size + 1, 0, none⟩) 1 1, .slice (some ⟨A.heap.size + 1 + 1, 0, none⟩) 1 1, .slice (some ⟨A.heap.size + 1 + 1 + 1, 0, none⟩) 4 4, .slice (some ⟨A.heap.size + 1 + 1 + 1 + 1, 0, none⟩) 3 3, .slice (some ⟨A.heap.size + 1 + 1 + 1 + 1 + 1, 0, none⟩) 1 1] 64)).heap) :
    Mem xs s k i n A.heap.size w := by
  obtain ⟨h0, h1, h2, h3, h4, h5, h6⟩ := seven A _ _ _ _ _ _ _ w hw
  refine ⟨fun r hr => ?_, h6⟩
  rcases six hr with rfl | rfl | rfl | rfl | rfl | rfl
  · exact h0
  · exact h1
  · exact h2
  · exact h3
  · exact h4
  · exact h5
theorem made_seven (A w : World) {o0 o1 o2 o3 o4 o5 o6 : Obj} (hw : w.heap = (((((((A.alloc o0).alloc o1).alloc o2).alloc o3).alloc o4).alloc o5).alloc o6).heap) (h1 : w.os = A.os) (h2 : w.tape = A.tape) (h3 : w.output = A.output) : Made A w := by
  have hm : Made A (((((((A.alloc o0).alloc o1).alloc o2).alloc o3).alloc o4).alloc o5).alloc o6) :=
    (((((((Made.refl A).alloc (Nat.le_refl _) _).alloc (by simp) _).alloc (by simp; omega) _).alloc (by simp; omega) _).alloc (by simp; omega) _).alloc (by simp; omega) _).alloc (by simp; omega) _
  exact ⟨h1, h2, h3, by rw [hw]; exact hm.size, fun j hj => by rw [hw]; exact hm.block j hj⟩
theorem mem_later {xs : List Int} {s k i n : Int} {b : Nat} {w w' : World} (h : Mem xs s k i n b w) (m : Made w w') : Mem xs s k i n b w' :=
  ⟨fun r hr => (m.block _ (Array.getElem?_eq_some_iff.1 (h.1 r hr)).1).trans (h.1 r hr), (m.block _ (Array.getElem?_eq_some_iff.1 h.2).1).trans h.2⟩
theorem mem_outer {xs : List Int} {s k i n : Int} {b : Nat} {w : World} (h : Mem xs s k i n b w) {r : Nat} (hr : r < 6) : w.cell? ⟨b + 6, r, none⟩ = some (.slice (some ⟨b + r, 0, none⟩) (XL xs s k i n r).length (XL xs s k i n r).length) := by
  rw [cell_of_row _ _ _ _ _ _ h.2]
  rcases six hr with rfl | rfl | rfl | rfl | rfl | rfl <;> rfl
theorem mem_inner {xs : List Int} {s k i n : Int} {b : Nat} {w : World} (h : Mem xs s k i n b w) {r : Nat} (hr : r < 6) (j : Nat) (hj : j < (XL xs s k i n r).length) : w.cell? ⟨b + r, j, none⟩ = some (.int .i64 (XL xs s k i n r)[j]) := by
  rw [cell_of_row _ _ _ _ _ _ (h.1 r hr)]
  exact row_at hj
theorem xl_len (xs : List Int) (s k i n : Int) {r : Nat} (hr : r < 6) : (XL xs s k i n r).length ≤ 4 := by
  rcases six hr with rfl | rfl | rfl | rfl | rfl | rfl <;> (unfold XL; simp)
theorem bools_at {xs : List Int} {s k i n : Int} {wr : World} {TT : TypeId} {sh lv sl nd tk cn : Bool} (h0 : sh = TL xs s k i n 0) (h1 : lv = TL xs s k i n 1) (h2 : sl = TL xs s k i n 2) (h3 : nd = TL xs s k i n 3) (h4 : tk = TL xs s k i n 4) (h5 : cn = TL xs s k i n 5) {r : Nat} (hr : r < 6) :
    (wr.alloc (.cells #[.bool sh, .bool lv, .bool sl, .bool nd, .bool tk, .bool cn] TT)).cell? ⟨wr.heap.size, r, none⟩ = some (.bool (TL xs s k i n r)) := by
  rw [cell_of_row _ _ _ _ _ _ (heap_alloc_new wr _)]
  rcases six hr with rfl | rfl | rfl | rfl | rfl | rfl
  · rw [← h0]; rfl
  · rw [← h1]; rfl
  · rw [← h2]; rfl
  · rw [← h3]; rfl
  · rw [← h4]; rfl
  · rw [← h5]; rfl
theorem cell_alloc_lt' (w : World) (o : Obj) {a : Addr} {v : Value} (h : w.cell? a = some v) : (w.alloc o).cell? a = some v := by
  rw [World.cell?_alloc_lt w o a (block_lt_of_cell h)]
  exact h
theorem isplan_drewN {w : World} {p : Nat} {xs : List Int} (h : IsPlan w p xs) (n : Nat) : IsPlan (w.drewN n) p xs := h
theorem isplan_alloc {w : World} {p : Nat} {xs : List Int} (h : IsPlan w p xs) (o : Obj) : IsPlan (w.alloc o) p xs := by
  unfold IsPlan at *
  rw [heap_alloc_old _ _ (Array.getElem?_eq_some_iff.1 h).1]
  exact h
theorem isplan_later {w w' : World} {p : Nat} {xs : List Int} (h : IsPlan w p xs) (m : Made w w') : IsPlan w' p xs := (m.block _ (Array.getElem?_eq_some_iff.1 h).1).trans h

set_option maxRecDepth 100000 in
set_option maxHeartbeats 4000000 in
theorem none_right (xs : List Int) (s k i n : Int) (w : World) (h : xs.length = 13) (hr : Rgt xs) :
    Calls Try.prog 9 #[.agg (row xs), .int .i64 s, .int .i64 k, .int .i64 i, .int .i64 n] w fun e w' => e = .returned (.bool true) ∧ Made w w' := by
  have HR := Lib.hid (Right_c xs h true (by rw [chk_right hr]; rfl))
  change Hid (∀ w : World, Calls Try.prog 14 #[.agg (row xs)] w _) at HR
  have HO := Lib.hid (OfC_c xs h)
  change Hid (∀ w : World, Calls Try.prog 16 #[.agg (row xs)] w fun e w' => e = .returned (.agg (row xs)) ∧ Made w w') at HO
  have HN := Lib.hid (New_yes xs h hr)
  change Hid (∀ w : World, Calls Try.prog 20 #[.agg (row xs)] w fun e w' => ∃ p, e = .returned (.tuple #[.pointer (some ⟨p, 0, none⟩), .int .i64 0]) ∧ IsPlan w' p xs ∧ w.heap.size ≤ p ∧ Made w w') at HN
  have HSL := Lib.hid (Slots_c xs h hr)
  change Hid (∀ w : World, Calls Try.prog 37 #[.agg (row xs)] w fun e w' => e = .returned (.int .i64 (slots xs)) ∧ Made w w') at HSL
  have HZ := Lib.hid (show (Try.prog.info? 23).map (·.size) = some 13 by kernel_rfl)
  have HS := Lib.hid (row_size h)
  have HALL := Lib.hid (all_good hr s k i n)
  obtain ⟨v0, hv0⟩ : ∃ v, v = xs.getD 0 0 := ⟨_, rfl⟩
  obtain ⟨v1, hv1⟩ : ∃ v, v = xs.getD 1 0 := ⟨_, rfl⟩
  obtain ⟨v3, hv3⟩ : ∃ v, v = xs.getD 3 0 := ⟨_, rfl⟩
  obtain ⟨v4, hv4⟩ : ∃ v, v = xs.getD 4 0 := ⟨_, rfl⟩
  obtain ⟨v7, hv7⟩ : ∃ v, v = xs.getD 7 0 := ⟨_, rfl⟩
  obtain ⟨sh, hsh⟩ : ∃ b, b = TL xs s k i n 0 := ⟨_, rfl⟩
  obtain ⟨lv, hlv⟩ : ∃ b, b = TL xs s k i n 1 := ⟨_, rfl⟩
  obtain ⟨sl, hsl⟩ : ∃ b, b = TL xs s k i n 2 := ⟨_, rfl⟩
  obtain ⟨nd, hnd⟩ : ∃ b, b = TL xs s k i n 3 := ⟨_, rfl⟩
  obtain ⟨tk, htk⟩ : ∃ b, b = TL xs s k i n 4 := ⟨_, rfl⟩
  obtain ⟨cn, hcn⟩ : ∃ b, b = TL xs s k i n 5 := ⟨_, rfl⟩
  obtain ⟨lk, hlk⟩ : ∃ b, b = (decide (0 ≤ k) && decide (k < v1)) := ⟨_, rfl⟩
  obtain ⟨sv, hsv⟩ : ∃ v, v = slots xs := ⟨_, rfl⟩
  obtain ⟨li, hli⟩ : ∃ b, b = (decide (0 ≤ i) && decide (i < sv)) := ⟨_, rfl⟩
  rw [← hsv] at HSL
  have HIs := Lib.hid (In_c s v0 sh (by rw [hsh, hv0]; rfl))
  have HIk := Lib.hid (In_c k v1 lk hlk)
  have HIi := Lib.hid (In_c i sv li hli)
  have HI3 := Lib.hid (In_c n v3 nd (by rw [hnd, hv3]; rfl))
  have HI4 := Lib.hid (In_c n v4 tk (by rw [htk, hv4]; rfl))
  have HI7 := Lib.hid (In_c n v7 cn (by rw [hcn, hv7]; rfl))
  have h1 : lv = (sh && lk) := by rw [hlv, hsh, hlk, hv1]; rfl
  have h2 : sl = (lv && li) := by rw [hsl, hlv, hli, hsv]; rfl
  have hc : (sh = false ∧ lv = false ∧ sl = false) ∨ (sh = true ∧ lk = false ∧ lv = false ∧ sl = false) ∨ (sh = true ∧ lk = true ∧ lv = true ∧ sl = li) := by
    rw [h2, h1]; cases sh <;> cases lk <;> simp
  have HT0 := Lib.hid hsh
  have HT1 := Lib.hid hlv
  have HT2 := Lib.hid hsl
  have HT3 := Lib.hid hnd
  have HT4 := Lib.hid htk
  have HT5 := Lib.hid hcn
  have HV0 := Lib.hid hv0
  have HV1 := Lib.hid hv1
  have HV3 := Lib.hid hv3
  have HV4 := Lib.hid hv4
  have HV7 := Lib.hid hv7
  clear hsh hlv hsl hnd htk hcn hlk hsv hli h1 h2 hv0 hv1 hv3 hv4 hv7
  have HL := Lib.hid h
  have HRG := Lib.hid hr
  have HC := Lib.hid hc
  clear h hr hc
  go_enter Try.func9, Try.ntmps9
  go_wp2_with fail
  refine (speaks_c _).mono ?_
  rintro e w1 ⟨rfl, hM1⟩
  have H1 := (at_start w xs 23).later hM1
  have hM := Made.trans ((Made.refl w).alloc (Nat.le_refl _) _) hM1
  clear hM1
  go_wp2_with (refine wpList_load_row_g (by simp [Region.wanted, yielded, Act.put]) 23 (.tmp 5) rfl w.heap.size (by simp [Act.eval, Act.put]) 23 (row xs) (0, 0) _ H1.out Try.underlying23 rfl (by rw [HS.out]; exact HZ.out) ?_)
  refine (HR.out _).mono ?_
  rintro e w2 ⟨rfl, hM2⟩
  have H2 := H1.later hM2
  have hN2 := Made.trans hM hM2
  clear H1 hM hM2 HR
  go_wp2_with (refine wpList_load_row rfl 23 (.tmp 5) rfl w.heap.size (by simp [Act.eval, Act.put]) 23 (row xs) (0, 0) _ H2.out Try.underlying23 rfl (by rw [HS.out]; exact HZ.out) ?_)
  refine (HO.out _).mono ?_
  rintro e w3 ⟨rfl, hM3⟩
  have H3 := H2.later hM3
  have hN3 := Made.trans hN2 hM3
  clear H2 hN2 hM3 HO
  go_wp2_with fail
  refine (HN.out _).mono ?_
  rintro e w4 ⟨p, rfl, hp, _, hM4⟩
  have H4 := H3.later hM4
  have hN4 := Made.trans hN3 hM4
  clear H3 hN3 hM4 HN
  have HP := Lib.hid hp
  clear hp
  have hl13 : xs.length = 13 := HL.out
  have f0 : w4.cell? ⟨w.heap.size, 0, none⟩ = some (.int .i64 v0) := (H4.cell (by omega)).trans (by rw [HV0.out]; simp [hl13])
  have f1 : w4.cell? ⟨w.heap.size, 1, none⟩ = some (.int .i64 v1) := (H4.cell (by omega)).trans (by rw [HV1.out]; simp [hl13])
  have f3 : w4.cell? ⟨w.heap.size, 3, none⟩ = some (.int .i64 v3) := (H4.cell (by omega)).trans (by rw [HV3.out]; simp [hl13])
  have f4 : w4.cell? ⟨w.heap.size, 4, none⟩ = some (.int .i64 v4) := (H4.cell (by omega)).trans (by rw [HV4.out]; simp [hl13])
  have f7 : w4.cell? ⟨w.heap.size, 7, none⟩ = some (.int .i64 v7) := (H4.cell (by omega)).trans (by rw [HV7.out]; simp [hl13])
  clear hl13
  go_wp2_with fail
  rcases HC.out with ⟨rfl, rfl, rfl⟩ | ⟨rfl, rfl, rfl, rfl⟩ | ⟨rfl, rfl, rfl, rfl⟩
  all_goals clear HC
  all_goals
    go_quiet (first | (go_at_call_of 36 (Value.int IntKind.i64 s); exact Calls.quiet_of_same ((HIs.out _).mono fun e w' h => ⟨h.1, h.2.symm⟩)) | (go_at_call_of 36 (Value.int IntKind.i64 k); exact Calls.quiet_of_same ((HIk.out _).mono fun e w' h => ⟨h.1, h.2.symm⟩)))
  · have H5 : At (w4.drewN nq) w.heap.size 23 xs := H4.later (Made.drewN _ _)
    have HP5 : Hid (IsPlan (w4.drewN nq) p xs) := HP.out
    have hN5 : Made w (w4.drewN nq) := below_drewN hN4 _
    have g3 : (w4.drewN nq).cell? ⟨w.heap.size, 3, none⟩ = some (.int .i64 v3) := f3
    have g4 : (w4.drewN nq).cell? ⟨w.heap.size, 4, none⟩ = some (.int .i64 v4) := f4
    have g7 : (w4.drewN nq).cell? ⟨w.heap.size, 7, none⟩ = some (.int .i64 v7) := f7
    clear f0 f1 f3 f4 f7 H4 HP hN4
    generalize w4.drewN nq = w6 at *
    go_wp2_with fail
    go_quiet (first | (go_at_call_of 36 (Value.int IntKind.i64 v3); exact Calls.quiet_of_same ((HI3.out _).mono fun e w' h => ⟨h.1, h.2.symm⟩)) | (go_at_call_of 36 (Value.int IntKind.i64 v4); exact Calls.quiet_of_same ((HI4.out _).mono fun e w' h => ⟨h.1, h.2.symm⟩)) | (go_at_call_of 36 (Value.int IntKind.i64 v7); exact Calls.quiet_of_same ((HI7.out _).mono fun e w' h => ⟨h.1, h.2.symm⟩)))
    have HP7 : Hid (IsPlan (w6.drewN nq) p xs) := HP5.out
    have hN7 : Made w (w6.drewN nq) := below_drewN hN5 _
    clear HP5 hN5
    generalize w6.drewN nq = w7 at *
    go_wp2_with fail
    refine (Inbox_c (by repeat (first | exact HP7.out | refine isplan_drewN ?_ _ | refine isplan_alloc ?_ _)) HL.out HRG.out s).mono ?_
    rintro e w' ⟨rfl, qInbox, rfl⟩
    go_wp2_with fail
    refine (Cur_c (by repeat (first | exact HP7.out | refine isplan_drewN ?_ _ | refine isplan_alloc ?_ _)) HL.out HRG.out s).mono ?_
    rintro e w' ⟨rfl, qCur, rfl⟩
    go_wp2_with fail
    refine (Over_c (by repeat (first | exact HP7.out | refine isplan_drewN ?_ _ | refine isplan_alloc ?_ _)) HL.out HRG.out s).mono ?_
    rintro e w' ⟨rfl, qOver, rfl⟩
    go_wp2_with fail
    refine (Map_c (by repeat (first | exact HP7.out | refine isplan_drewN ?_ _ | refine isplan_alloc ?_ _)) HL.out HRG.out s k).mono ?_
    rintro e w' ⟨rfl, qMap, rfl⟩
    go_wp2_with fail
    refine (Slot_c (by repeat (first | exact HP7.out | refine isplan_drewN ?_ _ | refine isplan_alloc ?_ _)) HL.out HRG.out s k i).mono ?_
    rintro e w' ⟨rfl, qSlot, rfl⟩
    go_wp2_with fail
    refine (State_c (by repeat (first | exact HP7.out | refine isplan_drewN ?_ _ | refine isplan_alloc ?_ _)) HL.out HRG.out n).mono ?_
    rintro e w' ⟨rfl, qState, rfl⟩
    go_wp2_with fail
    refine (Home_c (by repeat (first | exact HP7.out | refine isplan_drewN ?_ _ | refine isplan_alloc ?_ _)) HL.out HRG.out n).mono ?_
    rintro e w' ⟨rfl, qHome, rfl⟩
    go_wp2_with fail
    refine (User_c (by repeat (first | exact HP7.out | refine isplan_drewN ?_ _ | refine isplan_alloc ?_ _)) HL.out HRG.out n).mono ?_
    rintro e w' ⟨rfl, qUser, rfl⟩
    go_wp2_with fail
    refine (NodeLink_c (by repeat (first | exact HP7.out | refine isplan_drewN ?_ _ | refine isplan_alloc ?_ _)) HL.out HRG.out n).mono ?_
    rintro e w' ⟨rfl, qNodeLink, rfl⟩
    go_wp2_with fail
    refine (Key_c (by repeat (first | exact HP7.out | refine isplan_drewN ?_ _ | refine isplan_alloc ?_ _)) HL.out HRG.out n).mono ?_
    rintro e w' ⟨rfl, qKey, rfl⟩
    go_wp2_with fail
    refine (Time_c (by repeat (first | exact HP7.out | refine isplan_drewN ?_ _ | refine isplan_alloc ?_ _)) HL.out HRG.out n).mono ?_
    rintro e w' ⟨rfl, qTime, rfl⟩
    go_wp2_with fail
    refine (TicketLink_c (by repeat (first | exact HP7.out | refine isplan_drewN ?_ _ | refine isplan_alloc ?_ _)) HL.out HRG.out n).mono ?_
    rintro e w' ⟨rfl, qTicketLink, rfl⟩
    go_wp2_with fail
    refine (Conn_c (by repeat (first | exact HP7.out | refine isplan_drewN ?_ _ | refine isplan_alloc ?_ _)) HL.out HRG.out n).mono ?_
    rintro e w' ⟨rfl, qConn, rfl⟩
    go_wp2_with fail
    generalize hb : w7.heap.size = b
    have HBW := Lib.hid hb
    clear hb
    generalize hb6 : b + 1 + 1 + 1 + 1 + 1 + 1 = b6
    have HB6 := Lib.hid hb6
    clear hb6
    go_loopw [127] (fun i_ wr => ∃ r : Nat, r ≤ 6 ∧ i_ = .int .i64 r ∧ Hid (Mem xs s k i n b wr) ∧ Made w wr) (fun i_ _ => (6 - intOf i_).toNat)
    case atStart => exact ⟨0, by omega, rfl, (by show Mem _ _ _ _ _ b _; rw [← HBW.out]; exact mem_start xs s k i n w7 _ rfl), Made.trans hN7 (made_seven w7 _ rfl rfl rfl rfl)⟩
    case round =>
      obtain ⟨r, hr, rfl, HMr, hmr⟩ := hrel
      by_cases hr6 : r < 6
      · have c6 := mem_outer HMr.out hr6
        rw [show b + 6 = b6 from HB6.out] at c6
        have cB := bools_at (wr := wr) (TT := 4) HT0.out HT1.out HT2.out HT3.out HT4.out HT5.out hr6
        have hin := mem_inner HMr.out hr6
        have hgood := HALL.out r hr6
        obtain ⟨T, hT⟩ : ∃ T, T = TL xs s k i n r := ⟨_, rfl⟩
        obtain ⟨Y, hY⟩ : ∃ Y, Y = XL xs s k i n r := ⟨_, rfl⟩
        rw [← hT] at cB hgood
        have hlen := xl_len xs s k i n hr6
        rw [← hY] at c6 hin hgood hlen
        clear hT hY
        have HIN := Lib.hid hin
        have HG := Lib.hid hgood
        obtain ⟨m, hm⟩ : ∃ m, m = Y.length := ⟨_, rfl⟩
        rw [← hm] at c6
        have hm4 : m ≤ 4 := by rw [hm]; exact hlen
        have HMm := Lib.hid hm
        clear hin hgood hm
        generalize b + r = br at c6 HIN
        have i0 : 0 ≤ (r : Int) := by omega
        have i1 : (r : Int) < 6 := by omega
        go_wp2_with fail
        go_loop [144] (fun j_ => ∃ j : Nat, j ≤ m ∧ j_ = .int .i64 j) (fun j_ => m - (intOf j_).toNat)
        case atStart => exact ⟨0, by omega, rfl⟩
        case round =>
          obtain ⟨j, hj, rfl⟩ := hrel
          by_cases hjm : j < m
          · have hjl : j < Y.length := by have := HMm.out; omega
            have cx := HIN.out j hjl
            have hg := HG.out _ (List.getElem_mem hjl)
            generalize Y[j] = x at cx hg
            have cx' := fun o => (cell_alloc_lt' wr o cx)
            have j0 : 0 ≤ (j : Int) := by omega
            have j1 : (j : Int) < (m : Int) := by omega
            cases T
            · obtain rfl : x = -1 := hg.no rfl
              go_wp2_with fail
              go_round
              case rel => exact ⟨j + 1, by omega, by go_num⟩
              case measure => simp [intOf]; omega
            · have hx := hg.yes rfl
              go_wp2_with fail
              go_round
              case rel => exact ⟨j + 1, by omega, by go_num⟩
              case measure => simp [intOf]; omega
          · obtain rfl : j = m := by omega
            have HM2 : ∀ o, Mem xs s k i n b (wr.alloc o) := fun o => mem_later HMr.out (Below.alloc (Below.refl _ _) (Nat.le_refl _) _)
            have hm2 : ∀ o, Made w (wr.alloc o) := fun o => hmr.alloc hmr.size o
            have HM2' := Lib.hid HM2
            have hm2' := Lib.hid hm2
            clear HM2 hm2
            go_wp2_with fail
            go_roundw
            case rel => exact ⟨r + 1, by omega, by go_num, HM2'.out _, hm2'.out _⟩
            case measure => simp [intOf]; omega
      · obtain rfl : r = 6 := by omega
        go_wp2_with fail
        go_ret
        exact ⟨rfl, hmr⟩
  · have H5 : At (w4.drewN nq) w.heap.size 23 xs := H4.later (Made.drewN _ _)
    have HP5 : Hid (IsPlan (w4.drewN nq) p xs) := HP.out
    have hN5 : Made w (w4.drewN nq) := below_drewN hN4 _
    have g3 : (w4.drewN nq).cell? ⟨w.heap.size, 3, none⟩ = some (.int .i64 v3) := f3
    have g4 : (w4.drewN nq).cell? ⟨w.heap.size, 4, none⟩ = some (.int .i64 v4) := f4
    have g7 : (w4.drewN nq).cell? ⟨w.heap.size, 7, none⟩ = some (.int .i64 v7) := f7
    clear f0 f1 f3 f4 f7 H4 HP hN4
    generalize w4.drewN nq = w6 at *
    go_wp2_with fail
    go_quiet (first | (go_at_call_of 36 (Value.int IntKind.i64 v3); exact Calls.quiet_of_same ((HI3.out _).mono fun e w' h => ⟨h.1, h.2.symm⟩)) | (go_at_call_of 36 (Value.int IntKind.i64 v4); exact Calls.quiet_of_same ((HI4.out _).mono fun e w' h => ⟨h.1, h.2.symm⟩)) | (go_at_call_of 36 (Value.int IntKind.i64 v7); exact Calls.quiet_of_same ((HI7.out _).mono fun e w' h => ⟨h.1, h.2.symm⟩)))
    have HP7 : Hid (IsPlan (w6.drewN nq) p xs) := HP5.out
    have hN7 : Made w (w6.drewN nq) := below_drewN hN5 _
    clear HP5 hN5
    generalize w6.drewN nq = w7 at *
    go_wp2_with fail
    refine (Inbox_c (by repeat (first | exact HP7.out | refine isplan_drewN ?_ _ | refine isplan_alloc ?_ _)) HL.out HRG.out s).mono ?_
    rintro e w' ⟨rfl, qInbox, rfl⟩
    go_wp2_with fail
    refine (Cur_c (by repeat (first | exact HP7.out | refine isplan_drewN ?_ _ | refine isplan_alloc ?_ _)) HL.out HRG.out s).mono ?_
    rintro e w' ⟨rfl, qCur, rfl⟩
    go_wp2_with fail
    refine (Over_c (by repeat (first | exact HP7.out | refine isplan_drewN ?_ _ | refine isplan_alloc ?_ _)) HL.out HRG.out s).mono ?_
    rintro e w' ⟨rfl, qOver, rfl⟩
    go_wp2_with fail
    refine (Map_c (by repeat (first | exact HP7.out | refine isplan_drewN ?_ _ | refine isplan_alloc ?_ _)) HL.out HRG.out s k).mono ?_
    rintro e w' ⟨rfl, qMap, rfl⟩
    go_wp2_with fail
    refine (Slot_c (by repeat (first | exact HP7.out | refine isplan_drewN ?_ _ | refine isplan_alloc ?_ _)) HL.out HRG.out s k i).mono ?_
    rintro e w' ⟨rfl, qSlot, rfl⟩
    go_wp2_with fail
    refine (State_c (by repeat (first | exact HP7.out | refine isplan_drewN ?_ _ | refine isplan_alloc ?_ _)) HL.out HRG.out n).mono ?_
    rintro e w' ⟨rfl, qState, rfl⟩
    go_wp2_with fail
    refine (Home_c (by repeat (first | exact HP7.out | refine isplan_drewN ?_ _ | refine isplan_alloc ?_ _)) HL.out HRG.out n).mono ?_
    rintro e w' ⟨rfl, qHome, rfl⟩
    go_wp2_with fail
    refine (User_c (by repeat (first | exact HP7.out | refine isplan_drewN ?_ _ | refine isplan_alloc ?_ _)) HL.out HRG.out n).mono ?_
    rintro e w' ⟨rfl, qUser, rfl⟩
    go_wp2_with fail
    refine (NodeLink_c (by repeat (first | exact HP7.out | refine isplan_drewN ?_ _ | refine isplan_alloc ?_ _)) HL.out HRG.out n).mono ?_
    rintro e w' ⟨rfl, qNodeLink, rfl⟩
    go_wp2_with fail
    refine (Key_c (by repeat (first | exact HP7.out | refine isplan_drewN ?_ _ | refine isplan_alloc ?_ _)) HL.out HRG.out n).mono ?_
    rintro e w' ⟨rfl, qKey, rfl⟩
    go_wp2_with fail
    refine (Time_c (by repeat (first | exact HP7.out | refine isplan_drewN ?_ _ | refine isplan_alloc ?_ _)) HL.out HRG.out n).mono ?_
    rintro e w' ⟨rfl, qTime, rfl⟩
    go_wp2_with fail
    refine (TicketLink_c (by repeat (first | exact HP7.out | refine isplan_drewN ?_ _ | refine isplan_alloc ?_ _)) HL.out HRG.out n).mono ?_
    rintro e w' ⟨rfl, qTicketLink, rfl⟩
    go_wp2_with fail
    refine (Conn_c (by repeat (first | exact HP7.out | refine isplan_drewN ?_ _ | refine isplan_alloc ?_ _)) HL.out HRG.out n).mono ?_
    rintro e w' ⟨rfl, qConn, rfl⟩
    go_wp2_with fail
    generalize hb : w7.heap.size = b
    have HBW := Lib.hid hb
    clear hb
    generalize hb6 : b + 1 + 1 + 1 + 1 + 1 + 1 = b6
    have HB6 := Lib.hid hb6
    clear hb6
    go_loopw [127] (fun i_ wr => ∃ r : Nat, r ≤ 6 ∧ i_ = .int .i64 r ∧ Hid (Mem xs s k i n b wr) ∧ Made w wr) (fun i_ _ => (6 - intOf i_).toNat)
    case atStart => exact ⟨0, by omega, rfl, (by show Mem _ _ _ _ _ b _; rw [← HBW.out]; exact mem_start xs s k i n w7 _ rfl), Made.trans hN7 (made_seven w7 _ rfl rfl rfl rfl)⟩
    case round =>
      obtain ⟨r, hr, rfl, HMr, hmr⟩ := hrel
      by_cases hr6 : r < 6
      · have c6 := mem_outer HMr.out hr6
        rw [show b + 6 = b6 from HB6.out] at c6
        have cB := bools_at (wr := wr) (TT := 4) HT0.out HT1.out HT2.out HT3.out HT4.out HT5.out hr6
        have hin := mem_inner HMr.out hr6
        have hgood := HALL.out r hr6
        obtain ⟨T, hT⟩ : ∃ T, T = TL xs s k i n r := ⟨_, rfl⟩
        obtain ⟨Y, hY⟩ : ∃ Y, Y = XL xs s k i n r := ⟨_, rfl⟩
        rw [← hT] at cB hgood
        have hlen := xl_len xs s k i n hr6
        rw [← hY] at c6 hin hgood hlen
        clear hT hY
        have HIN := Lib.hid hin
        have HG := Lib.hid hgood
        obtain ⟨m, hm⟩ : ∃ m, m = Y.length := ⟨_, rfl⟩
        rw [← hm] at c6
        have hm4 : m ≤ 4 := by rw [hm]; exact hlen
        have HMm := Lib.hid hm
        clear hin hgood hm
        generalize b + r = br at c6 HIN
        have i0 : 0 ≤ (r : Int) := by omega
        have i1 : (r : Int) < 6 := by omega
        go_wp2_with fail
        go_loop [144] (fun j_ => ∃ j : Nat, j ≤ m ∧ j_ = .int .i64 j) (fun j_ => m - (intOf j_).toNat)
        case atStart => exact ⟨0, by omega, rfl⟩
        case round =>
          obtain ⟨j, hj, rfl⟩ := hrel
          by_cases hjm : j < m
          · have hjl : j < Y.length := by have := HMm.out; omega
            have cx := HIN.out j hjl
            have hg := HG.out _ (List.getElem_mem hjl)
            generalize Y[j] = x at cx hg
            have cx' := fun o => (cell_alloc_lt' wr o cx)
            have j0 : 0 ≤ (j : Int) := by omega
            have j1 : (j : Int) < (m : Int) := by omega
            cases T
            · obtain rfl : x = -1 := hg.no rfl
              go_wp2_with fail
              go_round
              case rel => exact ⟨j + 1, by omega, by go_num⟩
              case measure => simp [intOf]; omega
            · have hx := hg.yes rfl
              go_wp2_with fail
              go_round
              case rel => exact ⟨j + 1, by omega, by go_num⟩
              case measure => simp [intOf]; omega
          · obtain rfl : j = m := by omega
            have HM2 : ∀ o, Mem xs s k i n b (wr.alloc o) := fun o => mem_later HMr.out (Below.alloc (Below.refl _ _) (Nat.le_refl _) _)
            have hm2 : ∀ o, Made w (wr.alloc o) := fun o => hmr.alloc hmr.size o
            have HM2' := Lib.hid HM2
            have hm2' := Lib.hid hm2
            clear HM2 hm2
            go_wp2_with fail
            go_roundw
            case rel => exact ⟨r + 1, by omega, by go_num, HM2'.out _, hm2'.out _⟩
            case measure => simp [intOf]; omega
      · obtain rfl : r = 6 := by omega
        go_wp2_with fail
        go_ret
        exact ⟨rfl, hmr⟩
  · have H5 : At (w4.drewN nq) w.heap.size 23 xs := H4.later (Made.drewN _ _)
    have HP5 : Hid (IsPlan (w4.drewN nq) p xs) := HP.out
    have hN5 : Made w (w4.drewN nq) := below_drewN hN4 _
    have g3 : (w4.drewN nq).cell? ⟨w.heap.size, 3, none⟩ = some (.int .i64 v3) := f3
    have g4 : (w4.drewN nq).cell? ⟨w.heap.size, 4, none⟩ = some (.int .i64 v4) := f4
    have g7 : (w4.drewN nq).cell? ⟨w.heap.size, 7, none⟩ = some (.int .i64 v7) := f7
    clear f0 f1 f3 f4 f7 H4 HP hN4
    generalize w4.drewN nq = w5 at *
    go_wp2_with (refine wpList_load_row_g (by simp [Region.wanted, yielded, Act.put]) 23 (.tmp 5) rfl w.heap.size (by simp [Act.eval, Act.put]) 23 (row xs) (0, 0) _ H5.out Try.underlying23 rfl (by rw [HS.out]; exact HZ.out) ?_)
    refine (HSL.out _).mono ?_
    rintro e w6 ⟨rfl, hM6⟩
    have HP6 : Hid (IsPlan w6 p xs) := isplan_later HP5.out hM6
    have hN6 := Made.trans hN5 hM6
    have g3' : w6.cell? ⟨w.heap.size, 3, none⟩ = some (.int .i64 v3) := (hM6.cell H5.lt).trans g3
    have g4' : w6.cell? ⟨w.heap.size, 4, none⟩ = some (.int .i64 v4) := (hM6.cell H5.lt).trans g4
    have g7' : w6.cell? ⟨w.heap.size, 7, none⟩ = some (.int .i64 v7) := (hM6.cell H5.lt).trans g7
    clear g3 g4 g7 HP5 hN5 H5 hM6
    have HP5 := HP6
    have hN5 := hN6
    clear HP6 hN6
    go_wp2_with fail
    refine (HIi.out _).mono ?_
    rintro e w' ⟨rfl, rfl⟩
    go_wp2_with fail
    go_quiet (first | (go_at_call_of 36 (Value.int IntKind.i64 v3); exact Calls.quiet_of_same ((HI3.out _).mono fun e w' h => ⟨h.1, h.2.symm⟩)) | (go_at_call_of 36 (Value.int IntKind.i64 v4); exact Calls.quiet_of_same ((HI4.out _).mono fun e w' h => ⟨h.1, h.2.symm⟩)) | (go_at_call_of 36 (Value.int IntKind.i64 v7); exact Calls.quiet_of_same ((HI7.out _).mono fun e w' h => ⟨h.1, h.2.symm⟩)))
    have HP7 : Hid (IsPlan (w6.drewN nq) p xs) := HP5.out
    have hN7 : Made w (w6.drewN nq) := below_drewN hN5 _
    clear HP5 hN5
    generalize w6.drewN nq = w7 at *
    go_wp2_with fail
    refine (Inbox_c (by repeat (first | exact HP7.out | refine isplan_drewN ?_ _ | refine isplan_alloc ?_ _)) HL.out HRG.out s).mono ?_
    rintro e w' ⟨rfl, qInbox, rfl⟩
    go_wp2_with fail
    refine (Cur_c (by repeat (first | exact HP7.out | refine isplan_drewN ?_ _ | refine isplan_alloc ?_ _)) HL.out HRG.out s).mono ?_
    rintro e w' ⟨rfl, qCur, rfl⟩
    go_wp2_with fail
    refine (Over_c (by repeat (first | exact HP7.out | refine isplan_drewN ?_ _ | refine isplan_alloc ?_ _)) HL.out HRG.out s).mono ?_
    rintro e w' ⟨rfl, qOver, rfl⟩
    go_wp2_with fail
    refine (Map_c (by repeat (first | exact HP7.out | refine isplan_drewN ?_ _ | refine isplan_alloc ?_ _)) HL.out HRG.out s k).mono ?_
    rintro e w' ⟨rfl, qMap, rfl⟩
    go_wp2_with fail
    refine (Slot_c (by repeat (first | exact HP7.out | refine isplan_drewN ?_ _ | refine isplan_alloc ?_ _)) HL.out HRG.out s k i).mono ?_
    rintro e w' ⟨rfl, qSlot, rfl⟩
    go_wp2_with fail
    refine (State_c (by repeat (first | exact HP7.out | refine isplan_drewN ?_ _ | refine isplan_alloc ?_ _)) HL.out HRG.out n).mono ?_
    rintro e w' ⟨rfl, qState, rfl⟩
    go_wp2_with fail
    refine (Home_c (by repeat (first | exact HP7.out | refine isplan_drewN ?_ _ | refine isplan_alloc ?_ _)) HL.out HRG.out n).mono ?_
    rintro e w' ⟨rfl, qHome, rfl⟩
    go_wp2_with fail
    refine (User_c (by repeat (first | exact HP7.out | refine isplan_drewN ?_ _ | refine isplan_alloc ?_ _)) HL.out HRG.out n).mono ?_
    rintro e w' ⟨rfl, qUser, rfl⟩
    go_wp2_with fail
    refine (NodeLink_c (by repeat (first | exact HP7.out | refine isplan_drewN ?_ _ | refine isplan_alloc ?_ _)) HL.out HRG.out n).mono ?_
    rintro e w' ⟨rfl, qNodeLink, rfl⟩
    go_wp2_with fail
    refine (Key_c (by repeat (first | exact HP7.out | refine isplan_drewN ?_ _ | refine isplan_alloc ?_ _)) HL.out HRG.out n).mono ?_
    rintro e w' ⟨rfl, qKey, rfl⟩
    go_wp2_with fail
    refine (Time_c (by repeat (first | exact HP7.out | refine isplan_drewN ?_ _ | refine isplan_alloc ?_ _)) HL.out HRG.out n).mono ?_
    rintro e w' ⟨rfl, qTime, rfl⟩
    go_wp2_with fail
    refine (TicketLink_c (by repeat (first | exact HP7.out | refine isplan_drewN ?_ _ | refine isplan_alloc ?_ _)) HL.out HRG.out n).mono ?_
    rintro e w' ⟨rfl, qTicketLink, rfl⟩
    go_wp2_with fail
    refine (Conn_c (by repeat (first | exact HP7.out | refine isplan_drewN ?_ _ | refine isplan_alloc ?_ _)) HL.out HRG.out n).mono ?_
    rintro e w' ⟨rfl, qConn, rfl⟩
    go_wp2_with fail
    generalize hb : w7.heap.size = b
    have HBW := Lib.hid hb
    clear hb
    generalize hb6 : b + 1 + 1 + 1 + 1 + 1 + 1 = b6
    have HB6 := Lib.hid hb6
    clear hb6
    go_loopw [127] (fun i_ wr => ∃ r : Nat, r ≤ 6 ∧ i_ = .int .i64 r ∧ Hid (Mem xs s k i n b wr) ∧ Made w wr) (fun i_ _ => (6 - intOf i_).toNat)
    case atStart => exact ⟨0, by omega, rfl, (by show Mem _ _ _ _ _ b _; rw [← HBW.out]; exact mem_start xs s k i n w7 _ rfl), Made.trans hN7 (made_seven w7 _ rfl rfl rfl rfl)⟩
    case round =>
      obtain ⟨r, hr, rfl, HMr, hmr⟩ := hrel
      by_cases hr6 : r < 6
      · have c6 := mem_outer HMr.out hr6
        rw [show b + 6 = b6 from HB6.out] at c6
        have cB := bools_at (wr := wr) (TT := 4) HT0.out HT1.out HT2.out HT3.out HT4.out HT5.out hr6
        have hin := mem_inner HMr.out hr6
        have hgood := HALL.out r hr6
        obtain ⟨T, hT⟩ : ∃ T, T = TL xs s k i n r := ⟨_, rfl⟩
        obtain ⟨Y, hY⟩ : ∃ Y, Y = XL xs s k i n r := ⟨_, rfl⟩
        rw [← hT] at cB hgood
        have hlen := xl_len xs s k i n hr6
        rw [← hY] at c6 hin hgood hlen
        clear hT hY
        have HIN := Lib.hid hin
        have HG := Lib.hid hgood
        obtain ⟨m, hm⟩ : ∃ m, m = Y.length := ⟨_, rfl⟩
        rw [← hm] at c6
        have hm4 : m ≤ 4 := by rw [hm]; exact hlen
        have HMm := Lib.hid hm
        clear hin hgood hm
        generalize b + r = br at c6 HIN
        have i0 : 0 ≤ (r : Int) := by omega
        have i1 : (r : Int) < 6 := by omega
        go_wp2_with fail
        go_loop [144] (fun j_ => ∃ j : Nat, j ≤ m ∧ j_ = .int .i64 j) (fun j_ => m - (intOf j_).toNat)
        case atStart => exact ⟨0, by omega, rfl⟩
        case round =>
          obtain ⟨j, hj, rfl⟩ := hrel
          by_cases hjm : j < m
          · have hjl : j < Y.length := by have := HMm.out; omega
            have cx := HIN.out j hjl
            have hg := HG.out _ (List.getElem_mem hjl)
            generalize Y[j] = x at cx hg
            have cx' := fun o => (cell_alloc_lt' wr o cx)
            have j0 : 0 ≤ (j : Int) := by omega
            have j1 : (j : Int) < (m : Int) := by omega
            cases T
            · obtain rfl : x = -1 := hg.no rfl
              go_wp2_with fail
              go_round
              case rel => exact ⟨j + 1, by omega, by go_num⟩
              case measure => simp [intOf]; omega
            · have hx := hg.yes rfl
              go_wp2_with fail
              go_round
              case rel => exact ⟨j + 1, by omega, by go_num⟩
              case measure => simp [intOf]; omega
          · obtain rfl : j = m := by omega
            have HM2 : ∀ o, Mem xs s k i n b (wr.alloc o) := fun o => mem_later HMr.out (Below.alloc (Below.refl _ _) (Nat.le_refl _) _)
            have hm2 : ∀ o, Made w (wr.alloc o) := fun o => hmr.alloc hmr.size o
            have HM2' := Lib.hid HM2
            have hm2' := Lib.hid hm2
            clear HM2 hm2
            go_wp2_with fail
            go_roundw
            case rel => exact ⟨r + 1, by omega, by go_num, HM2'.out _, hm2'.out _⟩
            case measure => simp [intOf]; omega
      · obtain rfl : r = 6 := by omega
        go_wp2_with fail
        go_ret
        exact ⟨rfl, hmr⟩

theorem none_all (xs : List Int) (s k i n : Int) (w : World) (h : xs.length = 13) (_ : ∀ z ∈ xs, (Lit.int .i64 z).wf = true) (_ : (Lit.int .i64 s).wf = true) (_ : (Lit.int .i64 k).wf = true) (_ : (Lit.int .i64 i).wf = true) (_ : (Lit.int .i64 n).wf = true) :
    Calls Try.prog 9 #[.agg (xs.map (Value.int .i64)).toArray, .int .i64 s, .int .i64 k, .int .i64 i, .int .i64 n] w fun e w' => e = .returned (.bool true) ∧ Made w w' := by
  change Calls Try.prog 9 #[.agg (row xs), .int .i64 s, .int .i64 k, .int .i64 i, .int .i64 n] w fun e w' => e = .returned (.bool true) ∧ Made w w'
  rcases chk_cases xs with ⟨_, hr⟩ | ⟨j, _, _, _, hc⟩
  · exact none_right xs s k i n w h hr
  · exact none_wrong xs s k i n w h (by rw [hc]; simp)
end Go.Proofs.Ytnkcekgjppkbpaa.Law3
