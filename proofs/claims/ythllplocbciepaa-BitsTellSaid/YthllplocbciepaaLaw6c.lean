/- Package knelllaw06, walked: BitsOf. -/
import Derived.Test.YthllplocbciepaaLaw6
import Derived.Test.YthllplocbciepaaList
import Derived.Test.YthllplocbciepaaRd
import Derived.Test.YthllplocbciepaaOpenS
import Derived.Laws.AppendOwn
import Derived.Laws.AppendOwnNone
import Derived.Laws.OwnMore
namespace Go.Proofs.Ythllplocbciepaa.Law6
open Go.RowKit Go.Proofs.Ythllplocbciepaa Go.Proofs.Ythllplocbciepaa.Num Go.Proofs.Ythllplocbciepaa.SetN Go.Proofs.Ythllplocbciepaa.Bits
set_option linter.unusedVariables false
set_option linter.unusedSimpArgs false

/-! ### Plain -/
theorem bit_addI {s : Nat} (x : Int) (n : Nat) : (addI s x).testBit n = (s.testBit n || decide (n < 64 ∧ (n : Int) = x)) := by
  unfold addI
  by_cases h : 0 ≤ x ∧ x < 64
  · rw [if_pos h, bit_putIn]
    congr 1
    rw [decide_eq_decide]; omega
  · rw [if_neg h]
    have : decide (n < 64 ∧ (n : Int) = x) = false := by simp; omega
    rw [this]; simp
theorem bit_fold : ∀ (xs : List Int) (s n : Nat), (xs.foldl addI s).testBit n = (s.testBit n || decide (n < 64 ∧ (n : Int) ∈ xs))
  | [], s, n => by simp
  | x :: xs, s, n => by
    rw [List.foldl_cons, bit_fold xs, bit_addI, Bool.or_assoc]
    congr 1
    rw [← Bool.decide_or, decide_eq_decide, List.mem_cons]
    constructor
    · rintro (h | h)
      · exact ⟨h.1, .inl h.2⟩
      · exact ⟨h.1, .inr h.2⟩
    · rintro ⟨h1, h2 | h2⟩
      · exact .inl ⟨h1, h2⟩
      · exact .inr ⟨h1, h2⟩
theorem bit_ofL (xs : List Int) (n : Nat) : (ofL xs).testBit n = decide (n < 64 ∧ (n : Int) ∈ xs) := by
  unfold ofL; rw [bit_fold]; simp
theorem ofL_rev (xs : List Int) : ofL xs.reverse = ofL xs := by
  refine Nat.eq_of_testBit_eq fun i => ?_
  rw [bit_ofL, bit_ofL]; simp
theorem mem_upS (s n : Nat) : ∀ d a, n ∈ upS s a d ↔ (a ≤ n ∧ n < a + d ∧ s.testBit n = true)
  | 0, a => by simp [upS]; omega
  | d + 1, a => by
    have ih := mem_upS s n d (a + 1)
    rw [upS]
    by_cases e : s.testBit a = true
    · rw [if_pos e, List.mem_cons, ih]
      constructor
      · rintro (rfl | ⟨h1, h2, h3⟩)
        · exact ⟨Nat.le_refl _, by omega, e⟩
        · exact ⟨by omega, by omega, h3⟩
      · rintro ⟨h1, h2, h3⟩
        by_cases h : n = a
        · exact .inl h
        · exact .inr ⟨by omega, by omega, h3⟩
    · rw [if_neg e, ih]
      constructor
      · rintro ⟨h1, h2, h3⟩
        exact ⟨by omega, by omega, h3⟩
      · rintro ⟨h1, h2, h3⟩
        by_cases h : n = a
        · subst h; exact absurd h3 e
        · exact ⟨by omega, by omega, h3⟩
theorem mem_slots (s n : Nat) : n ∈ slotsOf s ↔ (n < 64 ∧ s.testBit n = true) := by
  unfold slotsOf fromS; rw [mem_upS]
  exact ⟨fun h => ⟨by omega, h.2.2⟩, fun h => ⟨by omega, by omega, h.2⟩⟩
/-- The slots of a set as numbers. -/
def slotsI (s : Nat) : List Int := (slotsOf s).map fun (n : Nat) => (n : Int)
theorem slotsI_len (s : Nat) : (slotsI s).length = (slotsOf s).length := by simp [slotsI]
theorem slotsI_vals (s : Nat) : (slotsI s).map (Value.int .i64) = vals (slotsOf s) := by simp [slotsI, vals]
theorem ofL_slots {s : Nat} (hs : s < 2 ^ 64) : ofL (slotsI s) = s := by
  refine Nat.eq_of_testBit_eq fun i => ?_
  rw [bit_ofL]
  have e : (i : Int) ∈ slotsI s ↔ (i < 64 ∧ s.testBit i = true) := by
    unfold slotsI
    rw [List.mem_map, ← mem_slots]
    constructor
    · rintro ⟨n, h1, h2⟩
      obtain rfl : n = i := by omega
      exact h1
    · intro h; exact ⟨i, h, rfl⟩
  by_cases h : s.testBit i = true
  · rw [h, decide_eq_true_eq]; exact ⟨bit_lt hs h, e.2 ⟨bit_lt hs h, h⟩⟩
  · rw [Bool.not_eq_true] at h
    rw [h, decide_eq_false_iff_not]
    intro h'
    rw [(e.1 h'.2).2] at h; cases h
theorem slots_in {xs : List Int} {x : Int} (h : x ∈ slotsI (ofL xs)) : x ∈ xs := by
  unfold slotsI at h
  obtain ⟨n, h1, rfl⟩ := List.mem_map.1 h
  have := ((mem_slots _ _).1 h1).2
  rw [bit_ofL] at this
  exact (of_decide_eq_true this).2
theorem take_rev {xs : List Int} {k : Nat} (h : k < xs.length) : (xs.take (k + 1)).reverse = xs[k] :: (xs.take k).reverse := by
  rw [List.take_succ_eq_append_getElem h]; simp
/-- One of the first is it. -/
def seen (xs : List Int) (x : Int) (j : Nat) : Bool := (xs.take j).any (fun y => y == x)
theorem seen_zero (xs : List Int) (x : Int) : seen xs x 0 = false := by simp [seen]
theorem seen_succ {xs : List Int} {x : Int} {j : Nat} (h : j < xs.length) : seen xs x (j + 1) = (seen xs x j || xs[j] == x) := by
  unfold seen; rw [List.take_succ_eq_append_getElem h]; simp only [List.any_append, List.any_cons, List.any_nil, Bool.or_false]
theorem seen_all {xs : List Int} {x : Int} (h : x ∈ xs) : seen xs x xs.length = true := by
  unfold seen; rw [List.take_length, List.any_eq_true]; exact ⟨x, h, by simp⟩

/-! ### In memory -/
theorem rd_news {k : IntKind} {w : World} {B : Nat} {a : Addr} {xs : List Int} (h : Rd k w B (some a) xs) (j : Nat) (u : Value) (hu : (xs.map (Value.int k))[j]? = some u) : w.cell? (a.add j) = some u := by
  have hj : j < xs.length := by
    have := (List.getElem?_eq_some_iff.1 hu).1
    simpa using this
  obtain ⟨b, hb, _, hc⟩ := h j hj
  injection hb with hb
  subst hb
  rw [hc, ← hu]
  simp [hj]
theorem add_nought (a : Addr) : a.add 0 = a := by
  unfold Addr.add; cases a; rename_i b o p; cases p <;> simp
theorem made_of_grown {w w' : World} {o : Obj} (h : (w.alloc o).grownBy w' (some w.heap.size)) : Made w w' :=
  ⟨h.os, h.tape, h.output, Nat.le_trans (by simp) h.size, fun k hk => (h.block k (by simp; omega) (by intro e; injection e with e; omega)).trans (Below.heap_alloc w o k hk)⟩
theorem own_rd {w : World} {base : Nat} {v : Value} {n : Nat} {xs : List Int} (hn : n = xs.length) (h : w.ownsRow base 3 1 v n (xs.map (Value.int .i64))) :
    ∃ A cap, v = .slice A n cap ∧ Rd .i64 w w.heap.size A xs := by
  obtain ⟨hl, ⟨rfl, rfl⟩ | ⟨g, cap, cur, rfl, hb, hc, hnc, hm, hs, ht⟩⟩ := h
  · obtain rfl : xs = [] := List.length_eq_zero_iff.1 hn.symm
    exact ⟨none, 0, rfl, Rd.nil _ _ _ _⟩
  · rw [Nat.mul_one] at ht
    have hk : ∀ i (hi : i < xs.length), cur[i]? = some (.int .i64 xs[i]) := fun i hi => by
      have e : (cur.toList.take n)[i]? = (xs.map (Value.int .i64))[i]? := by rw [ht]
      rw [List.getElem?_take_of_lt (by omega)] at e
      simpa [hi] using e
    exact ⟨_, cap, rfl, Rd.row hc hk (Array.getElem?_eq_some_iff.1 hc).1⟩
theorem own_lit (w : World) (x : Int) : (w.alloc (.cells #[.int .i64 x] 3)).ownsRow w.heap.size 3 1 (.slice (some ⟨w.heap.size, 0, none⟩) 1 1) 1 [.int .i64 x] :=
  ⟨rfl, .inr ⟨_, 1, #[.int .i64 x], rfl, Nat.le_refl _, Go.heap_alloc_new w _, Nat.le_refl _, by unfold maxLen; omega, rfl, rfl⟩⟩

set_option maxHeartbeats 1000000 in
theorem Of_g (xs : List Int) (A : Option Addr) (N cap : Nat) (hN : N = xs.length) (hn : N ≤ 1000) (B : Nat) (w : World) (hx : Rd .i64 w B A xs) :
    Calls Try.prog 22 #[.slice A N cap] w fun e w' => e = .returned (.int .u64 (ofL xs)) ∧ w = w' := by
  have HC := Lib.hid hx
  clear hx
  have HN := Lib.hid hN
  clear hN
  go_enter Try.func22, Try.ntmps22
  go_wp2
  go_loop [2, 7] (fun x n => ∃ k t : Nat, k ≤ N ∧ x = .int .u64 t ∧ n = .int .i64 k ∧ Hid (t = ofL (xs.take k))) (fun _ n => (N - intOf n).toNat)
  case atStart => exact ⟨0, 0, by omega, rfl, rfl, show _ = _ from by simp [ofL]⟩
  case round =>
    obtain ⟨k, t, hk, rfl, rfl, HT⟩ := hrel
    by_cases hkN : k < N
    · have hkl : k < xs.length := by have := HN.out; omega
      obtain ⟨a, rfl, _, c1⟩ := HC.out k hkl
      have ht2 : Hid (t < 2 ^ 64) := by show _ < _; rw [HT.out]; exact ofL_lt _
      have HT' : Hid (addI t xs[k] = ofL (xs.take (k + 1))) := by show _ = _; rw [HT.out, ofL_take hkl]
      obtain ⟨x, hx⟩ : ∃ x, x = xs[k] := ⟨_, rfl⟩
      rw [← hx] at c1 HT'
      clear hx HT
      have HW := Lib.hid (With_c t x ht2.out)
      generalize addI t x = u at HT' HW
      have hk0 : 0 ≤ (k : Int) := by omega
      have hk1 : (k : Int) < (N : Int) := by omega
      go_wp2_with (first | (go_at_call 21; refine (HW.out _).mono ?_; rintro e w' ⟨rfl, rfl⟩))
      go_round
      case rel => exact ⟨k + 1, u, by omega, rfl, by go_num, HT'⟩
      case measure => simp [intOf]; omega
    · obtain rfl : k = N := by omega
      go_wp2
      go_ret
      exact ⟨Bits.ret_of (by rw [HT.out, HN.out]; simp), rfl⟩

theorem has_in (xs : List Int) (s : Nat) (x : Int) (hs : s = ofL xs) (hx : x ∈ xs) (w : World) : Calls Try.prog 19 #[.int .u64 (s : Int), .int .i64 x] w fun e w' => e = .returned (.bool (decide (0 ≤ x ∧ x < 64))) ∧ w = w' := by
  have hlt : s < 2 ^ 64 := by rw [hs]; exact ofL_lt xs
  by_cases h : 0 ≤ x ∧ x < 64
  · obtain ⟨n, rfl⟩ := Int.eq_ofNat_of_zero_le h.1
    have := Has_yes s n hlt (by omega) w
    rw [show s.testBit n = true by rw [hs, bit_ofL]; exact decide_eq_true ⟨by omega, hx⟩] at this
    rw [decide_eq_true h]
    exact this
  · rw [decide_eq_false h]
    exact Has_no s x hlt h w
theorem own_app {w : World} {base k : Nat} {v : Value} {x : Int} {ys : List Int} (hl : ys.length = k) (h : w.ownsRow base 3 1 v (1 + k) ([.int .i64 x] ++ ys.map (Value.int .i64))) :
    ∃ A cap, v = .slice A (k + 1) cap ∧ Rd .i64 w w.heap.size A (x :: ys) := by
  rw [show 1 + k = k + 1 by omega] at h
  exact own_rd (xs := x :: ys) (by simp [hl]) h

set_option maxRecDepth 100000 in
set_option maxHeartbeats 4000000 in
theorem bits_of (xs : List Int) (A : Option Addr) (N cap : Nat) (hN : N = xs.length) (hn : N ≤ 100) (w : World) (hx : Rd .i64 w w.heap.size A xs) :
    Calls Try.prog 5 #[.slice A N cap] w fun e w' => e = .returned (.bool true) ∧ Made w w' := by
  obtain ⟨iu, hi, hz0⟩ := Option.map_eq_some_iff.1 Bits.int_info
  simp only [Prod.mk.injEq] at hz0
  obtain ⟨hz0, hz1, hz2⟩ := hz0
  have HI := Lib.hid (And.intro hi (And.intro hz0 (And.intro hz1 hz2)))
  clear hi hz0 hz1 hz2
  have HX := Lib.hid hx
  have HN := Lib.hid hN
  obtain ⟨s, hs⟩ : ∃ s, s = ofL xs := ⟨_, rfl⟩
  have HS := Lib.hid hs
  have hlt : s < 2 ^ 64 := by rw [hs]; exact ofL_lt xs
  have HLT := Lib.hid hlt
  have HOF : Hid (∀ (B : Nat) (w : World), Rd .i64 w B A xs → Calls Try.prog 22 #[.slice A N cap] w fun e w' => e = .returned (.int .u64 (s : Int)) ∧ w = w') := fun B w h => by rw [hs]; exact Of_g xs A N cap hN (by omega) B w h
  have HOR : Hid (∀ (R : Option Addr) (rc B : Nat) (w : World), Rd .i64 w B R xs.reverse → Calls Try.prog 22 #[.slice R N rc] w fun e w' => e = .returned (.int .u64 (s : Int)) ∧ w = w') := fun R rc B w h => by
    have := Of_g xs.reverse R N rc (by rw [List.length_reverse]; exact hN) (by omega) B w h
    rw [ofL_rev, ← hs] at this
    exact this
  obtain ⟨M, hM⟩ : ∃ M, M = (slotsI s).length := ⟨_, rfl⟩
  have hM64 : M ≤ 64 := by rw [hM, slotsI_len]; exact slots_len s
  have HM := Lib.hid hM
  have HLI : Hid (∀ w : World, Calls Try.prog 23 #[.int .u64 s] w fun e W' => ∃ L lc, e = .returned (.slice L M lc) ∧ Rd .i64 W' W'.heap.size L (slotsI s) ∧ Made w W') := fun w => by
    refine (List_c s hlt w).mono ?_
    rintro e W' ⟨v, rfl, ho, hm⟩
    rw [← slotsI_vals, ← slotsI_len, ← hM] at ho
    obtain ⟨L, lc, rfl, hr⟩ := own_rd hM ho
    exact ⟨L, lc, rfl, hr, hm⟩
  have HOL : Hid (∀ (L : Option Addr) (lc B : Nat) (w : World), Rd .i64 w B L (slotsI s) → Calls Try.prog 22 #[.slice L M lc] w fun e w' => e = .returned (.int .u64 (s : Int)) ∧ w = w') := fun L lc B w h => by
    have := Of_g (slotsI s) L M lc hM (by omega) B w h
    rw [ofL_slots hlt] at this
    exact this
  have t100 : decide (100 < (N : Int)) = false := by simp; omega
  clear hx hN hs hlt hM
  go_enter Try.func5, Try.ntmps5
  go_wp2_with fail
  refine (speaks_c _).mono ?_
  rintro e w0 ⟨rfl, hm0⟩
  have HX0 := Lib.hid (HX.out.later hm0)
  go_wp2_with fail
  refine (HOF.out _ _ HX0.out).mono ?_
  rintro e w' ⟨rfl, rfl⟩
  go_wp2_with fail
  go_loopw [4, 24] (fun r i wr => ∃ (k : Nat) (R : Option Addr) (rc : Nat), k ≤ N ∧ i = .int .i64 k ∧ r = .slice R k rc ∧ Hid (Rd .i64 wr wr.heap.size R ((xs.take k).reverse)) ∧ Hid (k = 0 → R = none ∧ rc = 0) ∧ Made w wr) (fun _ i _ => (N - intOf i).toNat)
  case atStart => exact ⟨0, none, 0, by omega, rfl, rfl, Rd.nil _ _ _ _, fun _ => ⟨rfl, rfl⟩, hm0⟩
  case round =>
    obtain ⟨k, R, rc, hk, rfl, rfl, HR, H0, hmr⟩ := hrel
    by_cases hkN : k < N
    · have hkl : k < xs.length := by have := HN.out; omega
      obtain ⟨a, rfl, _, c1⟩ := HX.out.later hmr k hkl
      have hrev := take_rev hkl
      have hmem : xs[k] ∈ xs := List.getElem_mem hkl
      obtain ⟨x, hxe⟩ : ∃ x, x = xs[k] := ⟨_, rfl⟩
      rw [← hxe] at c1 hrev hmem
      have HREV := Lib.hid hrev
      have HH : Hid (∀ w : World, Calls Try.prog 19 #[.int .u64 (s : Int), .int .i64 x] w fun e w' => e = .returned (.bool (decide (0 ≤ x ∧ x < 64))) ∧ w = w') := fun w => has_in xs s x HS.out hmem w
      clear hxe hrev hmem hkl
      have hk0 : 0 ≤ (k : Int) := by omega
      have hk1 : (k : Int) < (N : Int) := by omega
      rcases Nat.eq_zero_or_pos k with rfl | hkp
      · obtain ⟨rfl, rfl⟩ := H0.out rfl
        have c0 : wr.cell? a = some (.int .i64 x) := by rw [add_nought] at c1; exact c1
        clear c1
        go_wp2_with (at_builtin; (refine wpList_append_own_none rfl (.tmp 29) (.tmp 30) 32 rfl wr.heap.size 3 iu 1 Try.underlying32 HI.out.1 _ 1 [.int .i64 x] (by simp [Act.eval, Act.put]) (own_lit wr x) (by simp [Act.eval, Act.put]) ?_))
        have HR2 : Hid (Rd .i64 (wr.alloc (.cells #[.int .i64 x] 3)) (wr.alloc (.cells #[.int .i64 x] 3)).heap.size (some ⟨wr.heap.size, 0, none⟩) ((xs.take (0 + 1)).reverse)) := by
          obtain ⟨R', rc', hv, hR'⟩ := own_rd (xs := [x]) rfl (own_lit wr x)
          injection hv with h1 h2 h3
          subst h1
          rw [HREV.out]
          exact hR'
        have hm2 : Made w (wr.alloc (.cells #[.int .i64 x] 3)) := hmr.alloc hmr.size _
        by_cases hx0 : 0 ≤ x
        · by_cases hx1 : x < 64
          · have ht : decide (0 ≤ x ∧ x < 64) = true := by simp; omega
            rw [ht] at HH
            clear ht
            refine (HH.out _).mono ?_
            rintro e w' ⟨rfl, rfl⟩
            go_wp2_with fail
            go_roundw
            case rel => exact ⟨0 + 1, _, _, by omega, by go_num, rfl, HR2, fun h => absurd h (by omega), hm2⟩
            case measure => simp [intOf]; omega
          · have ht : decide (0 ≤ x ∧ x < 64) = false := by simp; omega
            rw [ht] at HH
            clear ht
            refine (HH.out _).mono ?_
            rintro e w' ⟨rfl, rfl⟩
            go_wp2_with fail
            go_roundw
            case rel => exact ⟨0 + 1, _, _, by omega, by go_num, rfl, HR2, fun h => absurd h (by omega), hm2⟩
            case measure => simp [intOf]; omega
        · have ht : decide (0 ≤ x ∧ x < 64) = false := by simp; omega
          rw [ht] at HH
          clear ht
          refine (HH.out _).mono ?_
          rintro e w' ⟨rfl, rfl⟩
          go_wp2_with fail
          go_roundw
          case rel => exact ⟨0 + 1, _, _, by omega, by go_num, rfl, HR2, fun h => absurd h (by omega), hm2⟩
          case measure => simp [intOf]; omega
      · have hl : ((xs.take k).reverse).length = k := by have := HN.out; simp; omega
        have HLEN := Lib.hid hl
        obtain ⟨ra, rfl, -, -⟩ := HR.out 0 (by omega)
        clear hl
        go_wp2_with (at_builtin; (refine wpList_append_own _ rfl (.tmp 29) (.tmp 30) 32 rfl wr.heap.size 3 iu (.int .i64 0) 1 8 Try.underlying32 HI.out.1 HI.out.2.1 HI.out.2.2.1 HI.out.2.2.2 rfl (by decide) _ 1 [.int .i64 x] (by simp [Act.eval, Act.put]) (own_lit wr x) ra k rc (((xs.take k).reverse).map (Value.int .i64)) (by simp [Act.eval, Act.put]) (by rw [List.length_map, HLEN.out]; omega) (rd_news (HR.out.later (Below.alloc (Below.refl _ _) (Nat.le_refl _) _))) (by simp [Value.oneCell']; intro u hu; obtain ⟨z, _, rfl⟩ := List.mem_map.1 (List.mem_of_mem_take hu); rfl) (by unfold maxLen; omega) (by omega) (by simp) ?_; intro v' w1 hown hgrow _))
        have hm2 : Made w w1 := Made.trans hmr (made_of_grown hgrow)
        obtain ⟨R', rc', rfl, hR'⟩ := own_app HLEN.out hown
        have HR2 : Hid (Rd .i64 w1 w1.heap.size R' ((xs.take (k + 1)).reverse)) := by
          show Rd _ _ _ _ _
          rw [HREV.out]; exact hR'
        clear hR' hown hgrow
        by_cases hx0 : 0 ≤ x
        · by_cases hx1 : x < 64
          · have ht : decide (0 ≤ x ∧ x < 64) = true := by simp; omega
            rw [ht] at HH
            clear ht
            refine (HH.out _).mono ?_
            rintro e w' ⟨rfl, rfl⟩
            go_wp2_with fail
            go_roundw
            case rel => exact ⟨k + 1, _, _, by omega, by go_num, rfl, HR2, fun h => absurd h (by omega), hm2⟩
            case measure => simp [intOf]; omega
          · have ht : decide (0 ≤ x ∧ x < 64) = false := by simp; omega
            rw [ht] at HH
            clear ht
            refine (HH.out _).mono ?_
            rintro e w' ⟨rfl, rfl⟩
            go_wp2_with fail
            go_roundw
            case rel => exact ⟨k + 1, _, _, by omega, by go_num, rfl, HR2, fun h => absurd h (by omega), hm2⟩
            case measure => simp [intOf]; omega
        · have ht : decide (0 ≤ x ∧ x < 64) = false := by simp; omega
          rw [ht] at HH
          clear ht
          refine (HH.out _).mono ?_
          rintro e w' ⟨rfl, rfl⟩
          go_wp2_with fail
          go_roundw
          case rel => exact ⟨k + 1, _, _, by omega, by go_num, rfl, HR2, fun h => absurd h (by omega), hm2⟩
          case measure => simp [intOf]; omega
    · obtain rfl : N = k := by omega
      have HRR : Hid (Rd .i64 wr wr.heap.size R xs.reverse) := by
        have := HR.out
        rw [HN.out, List.take_length] at this
        exact this
      clear HR H0
      go_wp2_with fail
      refine (HLI.out _).mono ?_
      rintro e w2 ⟨L, lc, rfl, hL, hm2⟩
      have HL := Lib.hid hL
      have HR2 := Lib.hid (HRR.out.later hm2)
      have hmr2 := Made.trans hmr hm2
      have HX2 := Lib.hid (HX.out.later hmr2)
      clear hL hm2 HRR hmr
      go_wp2_with fail
      go_loop [46] (fun i => ∃ m : Nat, m ≤ M ∧ i = .int .i64 m) (fun i => (M - intOf i).toNat)
      case atStart => exact ⟨0, by omega, rfl⟩
      case round =>
        obtain ⟨m, hm, rfl⟩ := hrel
        by_cases hmM : m < M
        · have hml : m < (slotsI s).length := by have := HM.out; omega
          obtain ⟨La, rfl, _, c1⟩ := HL.out m hml
          have hin : (slotsI s)[m] ∈ xs := slots_in (by rw [← HS.out]; exact List.getElem_mem hml)
          obtain ⟨x, hxe⟩ : ∃ x, x = (slotsI s)[m] := ⟨_, rfl⟩
          rw [← hxe] at c1 hin
          have HIN := Lib.hid hin
          clear hin hxe
          have hm0' : 0 ≤ (m : Int) := by omega
          have hm1 : (m : Int) < (M : Int) := by omega
          go_wp2_with fail
          go_loop [9, 52] (fun f j_ => ∃ (j : Nat) (b : Bool), j ≤ N ∧ j_ = .int .i64 j ∧ f = .bool b ∧ Hid (b = seen xs x j)) (fun _ j_ => (N - intOf j_).toNat)
          case atStart => exact ⟨0, false, by omega, rfl, rfl, by show _ = _; rw [seen_zero]⟩
          case round =>
            obtain ⟨j, b, hj, rfl, rfl, HB⟩ := hrel
            by_cases hjN : j < N
            · have hjl : j < xs.length := by have := HN.out; omega
              obtain ⟨Aa, rfl, _, c2⟩ := HX2.out j hjl
              have HB2 : Hid ((b || (xs[j] == x)) = seen xs x (j + 1)) := by show _ = _; rw [seen_succ hjl, HB.out]
              generalize xs[j] = y at c2 HB2
              have hj0 : 0 ≤ (j : Int) := by omega
              have hj1 : (j : Int) < (N : Int) := by omega
              cases b
              · go_wp2_with fail
                go_round
                case rel => exact ⟨j + 1, (y == x), by omega, by go_num, rfl, by simpa using HB2⟩
                case measure => simp [intOf]; omega
              · go_wp2_with fail
                go_round
                case rel => exact ⟨j + 1, true, by omega, by go_num, rfl, by simpa using HB2⟩
                case measure => simp [intOf]; omega
            · obtain rfl : N = j := by omega
              obtain rfl : b = true := by rw [HB.out, HN.out]; exact seen_all HIN.out
              go_wp2_with fail
              go_round
              case rel => exact ⟨m + 1, by omega, by go_num⟩
              case measure => simp [intOf]; omega
        · obtain rfl : M = m := by omega
          go_wp2_with fail
          refine (HOR.out _ _ _ _ HR2.out).mono ?_
          rintro e w' ⟨rfl, rfl⟩
          go_wp2_with fail
          refine (HLI.out _).mono ?_
          rintro e w3 ⟨L3, lc3, rfl, hL3, hm3⟩
          go_wp2_with fail
          refine (HOL.out _ _ _ _ hL3).mono ?_
          rintro e w' ⟨rfl, rfl⟩
          go_wp2_with fail
          go_ret
          exact ⟨rfl, Made.trans hmr2 hm3⟩

set_option maxRecDepth 100000 in
set_option maxHeartbeats 1000000 in
theorem bits_far (A : Option Addr) (N cap : Nat) (hn : 100 < N) (hb : N ≤ maxLen) (w : World) :
    Calls Try.prog 5 #[.slice A N cap] w fun e w' => e = .returned (.bool true) ∧ Made w w' := by
  have t100 : decide (100 < (N : Int)) = true := by simp; omega
  have h63 : (N : Int) ≤ 9223372036854775807 := by unfold maxLen at hb; omega
  go_enter Try.func5, Try.ntmps5
  go_wp2_with fail
  refine (speaks_c _).mono ?_
  rintro e w0 ⟨rfl, hm0⟩
  go_wp2_with fail
  refine (speaks_c _).mono ?_
  rintro e w1 ⟨rfl, hm1⟩
  go_wp2_with fail
  go_ret
  exact ⟨rfl, Made.trans hm0 hm1⟩
theorem bitsOf (v : Value) (xs : List Int) (w : World) (hv : SlK .i64 w v xs) (_ : ∀ z ∈ xs, (Lit.int .i64 z).wf = true) :
    Calls Try.prog 5 #[v] w fun e w' => e = .returned (.bool true) ∧ Made w w' := by
  rcases hv with ⟨rfl, rfl⟩ | ⟨a, cap, rfl, h1, h2, h3⟩
  · exact bits_of [] none 0 0 rfl (by omega) w (Rd.nil _ _ _ _)
  · by_cases hn : xs.length ≤ 100
    · refine bits_of xs (some a) xs.length cap rfl hn w (fun i hi => ⟨a, rfl, ?_, h3 i hi⟩)
      have := block_lt_of_cell (h3 i hi)
      have hb : (a.add i).block = a.block := by unfold Addr.add; split <;> rfl
      rw [hb] at this
      exact this
    · exact bits_far (some a) xs.length cap (by omega) (by omega) w
end Go.Proofs.Ythllplocbciepaa.Law6
