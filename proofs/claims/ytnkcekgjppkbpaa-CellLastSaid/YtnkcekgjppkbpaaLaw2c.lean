/- Package knelllaw02, walked: CellOf. -/
import Derived.Test.YtnkcekgjppkbpaaLaw2
import Derived.Test.YtnkcekgjppkbpaaCell3
import Derived.Laws.AppendOwn
import Derived.Laws.AppendOwnNone
import Derived.Laws.OwnMore
import Derived.Deep.RegionHeld3
namespace Go.Proofs.Ytnkcekgjppkbpaa.Law2
open Go.RowKit Go.Proofs.Ytnkcekgjppkbpaa Go.Proofs.Ytnkcekgjppkbpaa.Cell
set_option linter.unusedVariables false
set_option linter.unusedSimpArgs false

theorem made_of_grown {w w' : World} {o : Obj} (h : (w.alloc o).grownBy w' (some w.heap.size)) : Made w w' :=
  ⟨h.os, h.tape, h.output, Nat.le_trans (by simp) h.size, fun k hk => (h.block k (by simp; omega) (by intro e; injection e with e; omega)).trans (alloc_old w o k hk)⟩

/-- A row of so many numbers of one's own, whatever they are. -/
structure Mine (w : World) (g n : Nat) : Prop where
  ex : ∃ cur, w.heap[g]? = some (.cells cur 43 (0, 0)) ∧ ∀ i, i < n → ∃ v, cur[i]? = some (.int .u64 v)
theorem Mine.cell {w : World} {g n i : Nat} (h : Mine w g n) (hi : i < n) : ∃ v, w.cell? ⟨g, i, none⟩ = some (.int .u64 v) ∧ w.frozen? ⟨g, i, none⟩ = false := by
  obtain ⟨cur, hc, hv⟩ := h.ex
  obtain ⟨v, hv⟩ := hv i hi
  exact ⟨v, by rw [cell_of_row _ _ _ _ _ _ hc]; exact hv, frozen_of_row _ _ _ _ _ hc⟩
theorem Mine.put {w : World} {g n : Nat} (h : Mine w g n) (i : Nat) (v : Int) : Mine (w.setCell ⟨g, i, none⟩ (.int .u64 v)) g n := by
  obtain ⟨cur, hc, hv⟩ := h.ex
  refine ⟨cur.setIfInBounds i (.int .u64 v), by rw [setCell_eq_setRow _ _ _ _ _ _ _ hc, heap_setRow_same _ _ _ _ _ _ hc], fun j hj => ?_⟩
  obtain ⟨u, hu⟩ := hv j hj
  rw [Array.getElem?_setIfInBounds]
  by_cases e : i = j
  · rw [if_pos e, if_pos (by subst e; exact (Array.getElem?_eq_some_iff.1 hu).1)]; exact ⟨v, rfl⟩
  · rw [if_neg e]; exact ⟨u, hu⟩
theorem Mine.lt {w : World} {g n : Nat} (h : Mine w g n) : g < w.heap.size := by
  obtain ⟨cur, hc, _⟩ := h.ex
  exact (Array.getElem?_eq_some_iff.1 hc).1
theorem Mine.later {w w' : World} {g n : Nat} (h : Mine w g n) (m : Made w w') : Mine w' g n := by
  obtain ⟨cur, hc, hv⟩ := h.ex
  exact ⟨cur, (m.block _ h.lt).trans hc, hv⟩
theorem Mine.of_row {w : World} {g : Nat} {xs : List Int} (h : w.heap[g]? = some (.cells (row xs) 43 (0, 0))) : Mine w g xs.length :=
  ⟨_, h, fun i hi => ⟨_, row_at' hi⟩⟩
theorem Arena.put_far {w : World} {a b g : Nat} {c : Int} {xs : List Int} (h : Arena w a b c xs) (h1 : g ≠ a) (h2 : g ≠ b) (i : Nat) (v : Value) : Arena (w.setCell ⟨g, i, none⟩ v) a b c xs :=
  ⟨by rw [Cell.heap_setCell_other _ _ _ _ _ (Ne.symm h1)]; exact h.ha, by rw [Cell.heap_setCell_other _ _ _ _ _ (Ne.symm h2)]; exact h.hb, h.ne, h.c0, h.c1⟩

/-- What an append of these numbers to an empty row leaves. -/
theorem own_form {w : World} {base : Nat} {v : Value} {n : Nat} {xs : List Int} (hn : n = xs.length) (h1 : 1 ≤ n) (h : w.ownsRow base 43 1 v (0 + n) ([] ++ xs.map (Value.int .u64))) :
    ∃ g cap, v = .slice (some ⟨g, 0, none⟩) n cap ∧ base ≤ g ∧ Mine w g n ∧ Rd .u64 w w.heap.size (some ⟨g, 0, none⟩) xs := by
  obtain ⟨hl, h | ⟨g, cap, cur, rfl, hb, hc, hnc, hm, hs, ht⟩⟩ := h
  · omega
  · rw [Nat.zero_add, Nat.mul_one] at ht
    have hk : ∀ i (hi : i < xs.length), cur[i]? = some (.int .u64 xs[i]) := fun i hi => by
      have e : (cur.toList.take n)[i]? = (xs.map (Value.int .u64))[i]? := by rw [ht]; rfl
      rw [List.getElem?_take_of_lt (by omega)] at e
      simpa [hi] using e
    refine ⟨g, cap, by rw [Nat.zero_add], hb, ⟨cur, hc, fun i hi => ⟨_, hk i (by omega)⟩⟩, Rd.row hc hk (Array.getElem?_eq_some_iff.1 hc).1⟩

theorem rd_news {k : IntKind} {w : World} {B : Nat} {a : Addr} {xs : List Int} (h : Rd k w B (some a) xs) (j : Nat) (u : Value) (hu : (xs.map (Value.int k))[j]? = some u) : w.cell? (a.add j) = some u := by
  have hj : j < xs.length := by
    have := (List.getElem?_eq_some_iff.1 hu).1
    simpa using this
  obtain ⟨b, hb, _, hc⟩ := h j hj
  injection hb with hb
  subst hb
  rw [hc, ← hu]
  simp [hj]
theorem all_n {w : World} {a b : Nat} {c : Int} {xs : List Int} {n : Nat} (hn : Hid (n = xs.length)) (h : Arena w a b c xs) (h2 : n ≤ 1048576) :
    Calls Try.prog 33 #[.pointer (some ⟨a, 0, none⟩)] w fun e w' => e = .returned (.slice (some ⟨w.heap.size, 0, none⟩) n n) ∧ w'.heap[w.heap.size]? = some (.cells (row xs) 43 (0, 0)) ∧ Made w w' := by
  have := hn.out
  subst this
  exact All_c h h2
theorem keepS {w w' : World} {a : Addr} {v : Value} (h : Hid (∀ w' : World, Made w w' → w'.cell? a = some v)) (m : Made w w') : w'.cell? a = some v ∧ Made w w' := ⟨h.out w' m, m⟩
theorem len_n {w : World} {a b : Nat} {c : Int} {xs : List Int} {m : Nat} (hn : Hid (m + 1 = xs.length)) (h : Arena w a b c xs) (h2 : m + 1 ≤ 1048576) :
    Calls Try.prog 35 #[.pointer (some ⟨a, 0, none⟩)] w fun e w' => e = .returned (.int .i64 ((m : Int) + 1)) ∧ w = w' := by
  have := Len_c h (by rw [← hn.out]; exact h2)
  rw [← hn.out] at this
  exact this
theorem load_last {w : World} {a b : Nat} {xs : List Int} {m : Nat} {last : Int} {hm : m < xs.length} (hl : Hid (last = xs[m])) (h : Arena w a b 0 xs) (hm' : m < xs.length) :
    Calls Try.prog 28 #[.pointer (some ⟨a, 0, none⟩), .int .i64 (m : Int)] w fun e w' => e = .returned (.int .u64 last) ∧ Turned a b w w' := by
  rw [hl.out]
  exact (Load_yes h (by omega) m hm).mono fun _ _ h => ⟨h.1, h.2.2⟩
theorem own_empty {w : World} {base : Nat} {v : Value} {xs : List Value} (h : w.ownsRow base 43 1 v (0 + 0) xs) : ∃ A cap, v = .slice A 0 cap := by
  obtain ⟨_, ⟨rfl, _⟩ | ⟨g, cap, _, rfl, _⟩⟩ := h
  · exact ⟨_, _, rfl⟩
  · exact ⟨_, _, rfl⟩
theorem add_base (g i : Nat) : (⟨g, 0, none⟩ : Addr).add i = ⟨g, i, none⟩ := by unfold Addr.add; split <;> simp_all

set_option maxRecDepth 100000 in
set_option maxHeartbeats 4000000 in
theorem of_some (a : Addr) (m cap : Nat) (xs : List Int) (hm : Hid (m + 1 = xs.length)) (hm80 : m + 1 ≤ 80) (w : World) (hx : Rd .u64 w w.heap.size (some a) xs) :
    Calls Try.prog 7 #[.slice (some a) (m + 1) cap] w fun e w' => e = .returned (.bool true) ∧ Made w w' := by
  obtain ⟨iu, hi, hz0⟩ := Option.map_eq_some_iff.1 uint_info
  simp only [Prod.mk.injEq] at hz0
  obtain ⟨hz0, hz1, hz2⟩ := hz0
  have HI := Lib.hid (And.intro hi (And.intro hz0 (And.intro hz1 hz2)))
  clear hi hz0 hz1 hz2
  have HX := Lib.hid hx
  clear hx
  have t80 : decide (80 < (m : Int) + 1) = false := by simp; omega
  go_enter Try.func7, Try.ntmps7
  go_wp2_with fail
  refine (speaks_c _).mono ?_
  rintro e w0 ⟨rfl, hm0⟩
  have HX0 := Lib.hid (HX.out.later hm0)
  have hB0 : w.heap.size ≤ w0.heap.size := hm0.size
  go_wp2_with (at_builtin; (refine wpList_append_own _ rfl (.tmp 17) (.tmp 18) 44 rfl w0.heap.size 43 iu (.int .u64 0) 1 8 Try.underlying44 HI.out.1 HI.out.2.1 HI.out.2.2.1 HI.out.2.2.2 rfl (by decide) _ 0 [] (by simp [Act.eval, Act.put]) (World.ownsRow_made w0 #[] 0 (Nat.le_refl _) (by unfold maxLen; omega) rfl) a (m + 1) cap (xs.map (Value.int .u64)) (by simp [Act.eval, Act.put]) (by rw [List.length_map, ← hm.out]; omega) (rd_news (HX0.out.later (Below.alloc (Below.refl _ _) hB0 _)))  (by simp [Value.oneCell']) (by unfold maxLen; omega) (by omega) (by simp) ?_; intro v' w1 hown hgrow _))
  obtain ⟨g, cp, rfl, hg, hmine, hrd⟩ := own_form hm.out (by omega) hown
  have hM1 : Made w w1 := Made.trans hm0 (made_of_grown hgrow)
  have HX1 := Lib.hid (HX.out.later hM1)
  have HOF := Lib.hid (fun w1 hrd => Of_c (w := w1) xs (some ⟨g, 0, none⟩) (m + 1) cp hm.out (by omega) (by omega) hrd)
  have HR := Lib.hid hrd
  clear hown hgrow hrd HX0 hm0
  go_wp2_with fail
  refine (HOF.out _ HR.out).mono ?_
  rintro e w2 ⟨rfl, hA2, hs2, hM2⟩
  have hgl := hmine.lt
  have HA2 := Lib.hid hA2
  have hmine2 := hmine.later hM2
  have hN2 := Made.trans hM1 hM2
  have hgB : w.heap.size ≤ g := by omega
  have hw1 := hM1.size
  clear hA2 hmine hM2 hs2 HR HOF
  generalize hAd : w1.heap.size + 1 = ad at *
  have hadB : w.heap.size ≤ ad := by omega
  have hgne : g ≠ ad := by omega
  have hgne2 : g ≠ w1.heap.size := by omega
  clear hAd
  generalize w1.heap.size = bl at *
  go_wp2_with fail
  refine (Count_c HA2.out).mono ?_
  rintro e w3 ⟨rfl, rfl⟩
  go_wp2_with fail
  go_loopw [47] (fun i wr => ∃ k : Nat, k ≤ m + 1 ∧ i = .int .i64 k ∧ Hid (Mine wr g (m + 1)) ∧ Hid (Arena wr ad bl 0 xs) ∧ Made w wr) (fun i _ => (m + 1 - intOf i).toNat)
  case atStart => exact ⟨0, by omega, rfl, hmine2, HA2, hN2⟩
  case round =>
    obtain ⟨k, hk, rfl, HMr, HAr, hmr⟩ := hrel
    clear HA2 hmine2 hN2
    by_cases hkn : k < m + 1
    · obtain ⟨v, cv, cz⟩ := HMr.out.cell hkn
      have HM2 := Lib.hid (fun u => HMr.out.put k u)
      have HA3 := Lib.hid (fun u => Arena.put_far HAr.out hgne hgne2 k u)
      have hm2 := Lib.hid (fun u => Below.setCell (p := ⟨g, k, none⟩) hmr hgB u)
      have i0 : 0 ≤ (k : Int) := by omega
      have i1 : (k : Int) < (m : Int) + 1 := by omega
      go_wp2_with fail
      go_roundw
      case rel => exact ⟨k + 1, by omega, by go_num, HM2.out _, HA3.out _, hm2.out _⟩
      case measure => simp [intOf]; omega
    · obtain rfl : k = m + 1 := by omega
      go_wp2_with fail
      refine (all_n hm HAr.out (by omega)).mono ?_
      rintro e w5 ⟨rfl, ht5, hM5⟩
      have HA5 := Lib.hid (HAr.out.later hM5)
      have hN5 := Made.trans hmr hM5
      have HX5 := Lib.hid ((HX.out.later hN5).more hN5.size)
      have hlt5 := (Array.getElem?_eq_some_iff.1 ht5).1
      have HR5 := Lib.hid (Rd.row (xs := xs) ht5 (fun i hi => row_at' hi) hlt5)
      have HM5 := Lib.hid (Mine.of_row ht5)
      rw [← hm.out] at HM5
      have hna : wr.heap.size ≠ ad := by have := (Array.getElem?_eq_some_iff.1 HAr.out.ha).1; omega
      have hnb : wr.heap.size ≠ bl := by have := (Array.getElem?_eq_some_iff.1 HAr.out.hb).1; omega
      have htB : w.heap.size ≤ wr.heap.size := hmr.size
      clear ht5 HAr HMr hmr hM5
      generalize wr.heap.size = t at *
      go_wp2_with fail
      refine (same_c xs xs _ _ (m + 1) (m + 1) _ _ hm hm (by omega) (by omega) HR5.out HX5.out).mono ?_
      rintro e w6 ⟨rfl, hM6⟩
      have HA6 := Lib.hid (HA5.out.later hM6)
      have HM6 := Lib.hid (HM5.out.later hM6)
      have hN6 := Made.trans hN5 hM6
      clear HA5 HM5 hN5 hM6 HR5 HX5
      rw [decide_eq_true rfl]
      go_wp2_with fail
      go_loopw [65] (fun i wr => ∃ k : Nat, k ≤ m + 1 ∧ i = .int .i64 k ∧ Hid (Mine wr t (m + 1)) ∧ Hid (Arena wr ad bl 0 xs) ∧ Made w wr) (fun i _ => (m + 1 - intOf i).toNat)
      case atStart => exact ⟨0, by omega, rfl, HM6, HA6, hN6⟩
      case round =>
        obtain ⟨k, hk, rfl, HMr, HAr, hmr⟩ := hrel
        clear HA6 HM6 hN6
        by_cases hkn : k < m + 1
        · obtain ⟨v, cv, cz⟩ := HMr.out.cell hkn
          have HM2 := Lib.hid (fun u => HMr.out.put k u)
          have HA3 := Lib.hid (fun u => Arena.put_far HAr.out hna hnb k u)
          have hm2 := Lib.hid (fun u => Below.setCell (p := ⟨t, k, none⟩) hmr htB u)
          have i0 : 0 ≤ (k : Int) := by omega
          have i1 : (k : Int) < (m : Int) + 1 := by omega
          go_wp2_with fail
          go_roundw
          case rel => exact ⟨k + 1, by omega, by go_num, HM2.out _, HA3.out _, hm2.out _⟩
          case measure => simp [intOf]; omega
        · obtain rfl : k = m + 1 := by omega
          go_wp2_with fail
          have hAr : Arena wr.drew ad bl 0 xs := HAr.out.later (Made.drewN wr 1)
          have hMr : Made w wr.drew := below_drewN hmr 1
          have hml : m < xs.length := by have := hm.out; omega
          obtain ⟨last, hlast⟩ : ∃ v, v = xs[m] := ⟨_, rfl⟩
          have HL := Lib.hid hlast
          have HK : Hid (∀ w' : World, Made w w' → w'.cell? (a.add m) = some (.int .u64 last)) := fun w' mk => by
            obtain ⟨b, hb, _, hc⟩ := HX.out.later mk m hml
            injection hb with hb
            subst hb
            rw [hc, ← hlast]
          clear hlast HAr HMr hmr
          have l0 : 0 ≤ (m : Int) := by omega
          have l1 : (m : Int) < (m : Int) + 1 := by omega
          have b1 : m + 1 ≤ 1048576 := by omega
          have b2 : ((m + 1 : Nat) : Int) ≤ 9223372036854775807 := by omega
          have b3 : w.heap.size ≤ bl := by omega
          have q0 : IntKind.i64.wrap ((m : Int) + 1 - 1) = (m : Int) := by rw [IntWalk.i64_in _ (by omega)]; omega
          have q1 : IntKind.i64.wrap (m : Int) = (m : Int) := IntWalk.i64_in _ (by omega)
          have q2 : wrap64 (m : Int) = (m : Int) := IntWalk.wrap64_in _ (by omega)
          go_region_held3 (fun w' => w'.cell? (a.add m) = some (.int .u64 last) ∧ Made w w') (exact keepS HK (by assumption)) (first | (go_at_call 33; refine (all_n hm hAr b1).mono ?_; rintro e w33 ⟨rfl, hrow33, hM33⟩; have hA33 := hAr.later hM33; have hMd33 := Made.trans hMr hM33) | (go_at_call 34; refine (same_c xs xs _ _ (m + 1) (m + 1) _ _ hm hm b2 b2 (Rd.row (xs := xs) hrow33 (fun i hi => row_at' hi) (Array.getElem?_eq_some_iff.1 hrow33).1) ((HX.out.later hMd33).more hMd33.size)).mono ?_; rintro e w34 ⟨rfl, hM34⟩; have hA34 := hA33.later hM34; have hMd34 := Made.trans hMd33 hM34; rw [decide_eq_true rfl]) | (go_at_call 31; refine (Count_c hA34).mono ?_; rintro e w' ⟨rfl, rfl⟩) | (go_at_call 35; refine (len_n hm hA34 b1).mono ?_; rintro e w' ⟨rfl, rfl⟩) | (go_at_call 28; refine (load_last HL hA34 hml).mono ?_; rintro e w28 ⟨rfl, ht28⟩; have hMd28 : Made w w28 := Below.trans hMd34 (ht28.below hadB b3)))
          go_wp2_with fail
          go_ret
          exact ⟨rfl, And.right (by assumption)⟩

set_option maxRecDepth 100000 in
set_option maxHeartbeats 400000 in
theorem of_far (a : Addr) (n cap : Nat) (hn : 80 < n) (hn' : (n : Int) ≤ 9223372036854775807) (w : World) :
    Calls Try.prog 7 #[.slice (some a) n cap] w fun e w' => e = .returned (.bool true) ∧ Made w w' := by
  have hn1 : 80 < (n : Int) := by omega
  go_enter Try.func7, Try.ntmps7
  go_wp2_with fail
  refine (speaks_c _).mono ?_
  rintro e w0 ⟨rfl, hm0⟩
  go_wp2_with fail
  refine (speaks_c _).mono ?_
  rintro e w1 ⟨rfl, hm1⟩
  go_wp2_with fail
  go_ret
  exact ⟨rfl, Made.trans hm0 hm1⟩

set_option maxRecDepth 100000 in
set_option maxHeartbeats 400000 in
theorem of_nil (w : World) : Calls Try.prog 7 #[.slice none 0 0] w fun e w' => e = .returned (.bool true) ∧ Made w w' := by
  obtain ⟨iu, hi, hz0⟩ := Option.map_eq_some_iff.1 uint_info
  have HI := Lib.hid hi
  clear hi hz0
  go_enter Try.func7, Try.ntmps7
  go_wp2_with fail
  refine (speaks_c _).mono ?_
  rintro e w0 ⟨rfl, hm0⟩
  go_wp2_with (at_builtin; (refine wpList_append_own_none rfl (.tmp 17) (.tmp 18) 44 rfl w0.heap.size 43 iu 1 Try.underlying44 HI.out (.slice (some ⟨w0.heap.size, 0, none⟩) 0 0) 0 [] (by simp [Act.eval, Act.put]) (World.ownsRow_made w0 #[] 0 (Nat.le_refl _) (by unfold maxLen; omega) rfl) (by simp [Act.eval, Act.put]) ?_))
  refine (Of_no _ _ _).mono ?_
  rintro e w2 ⟨rfl, rfl⟩
  go_wp2_with fail
  go_ret
  exact ⟨rfl, hm0.alloc hm0.size _⟩
set_option maxRecDepth 100000 in
set_option maxHeartbeats 400000 in
theorem of_empty (a : Addr) (cap : Nat) (w : World) : Calls Try.prog 7 #[.slice (some a) 0 cap] w fun e w' => e = .returned (.bool true) ∧ Made w w' := by
  obtain ⟨iu, hi, hz0⟩ := Option.map_eq_some_iff.1 uint_info
  simp only [Prod.mk.injEq] at hz0
  obtain ⟨hz0, hz1, hz2⟩ := hz0
  have HI := Lib.hid (And.intro hi (And.intro hz0 (And.intro hz1 hz2)))
  clear hi hz0 hz1 hz2
  go_enter Try.func7, Try.ntmps7
  go_wp2_with fail
  refine (speaks_c _).mono ?_
  rintro e w0 ⟨rfl, hm0⟩
  go_wp2_with (at_builtin; (refine wpList_append_own _ rfl (.tmp 17) (.tmp 18) 44 rfl w0.heap.size 43 iu (.int .u64 0) 1 8 Try.underlying44 HI.out.1 HI.out.2.1 HI.out.2.2.1 HI.out.2.2.2 rfl (by decide) _ 0 [] (by simp [Act.eval, Act.put]) (World.ownsRow_made w0 #[] 0 (Nat.le_refl _) (by unfold maxLen; omega) rfl) a 0 cap [] (by simp [Act.eval, Act.put]) (by simp) (fun j u hu => by simp at hu) (by simp) (by unfold maxLen; omega) (by omega) (by simp) ?_; intro v' w1 hown hgrow _; obtain ⟨A', cp, rfl⟩ := own_empty hown))
  have hM1 : Made w w1 := Made.trans hm0 (made_of_grown hgrow)
  clear hown hgrow hm0
  refine (Of_no _ _ _).mono ?_
  rintro e w2 ⟨rfl, rfl⟩
  go_wp2_with fail
  go_ret
  exact ⟨rfl, hM1⟩

theorem cellOf (v : Value) (xs : List Int) (w : World) (hv : SlK .u64 w v xs) (_ : ∀ z ∈ xs, (Lit.int .u64 z).wf = true) :
    Calls Try.prog 7 #[v] w fun e w' => e = .returned (.bool true) ∧ Made w w' := by
  rcases hv with ⟨rfl, rfl⟩ | ⟨a, cap, rfl, h1, h2, h3⟩
  · exact of_nil w
  · by_cases h0 : xs.length = 0
    · rw [h0]; exact of_empty a cap w
    · by_cases hn : xs.length ≤ 80
      · obtain ⟨m, hm⟩ : ∃ m, m + 1 = xs.length := ⟨xs.length - 1, by omega⟩
        rw [← hm]
        refine of_some a m cap xs hm (by omega) w (fun i hi => ⟨a, rfl, ?_, h3 i hi⟩)
        have := block_lt_of_cell (h3 i hi)
        have hb : (a.add i).block = a.block := by unfold Addr.add; split <;> rfl
        rw [hb] at this
        exact this
      · exact of_far a xs.length cap (by omega) (by unfold maxLen at h2; omega) w
end Go.Proofs.Ytnkcekgjppkbpaa.Law2
