/- Package wheel: slots. -/
import Derived.Test.YtndpkonihcebeaaPas2
namespace Go.Proofs.Ytndpkonihcebeaa.Whl
open Go.RowKit Go.Proofs.Ytndpkonihcebeaa Go.Proofs.Ytndpkonihcebeaa.Cell Go.Proofs.Ytndpkonihcebeaa.Seq Go.Proofs.Ytndpkonihcebeaa.Num Go.Proofs.Ytndpkonihcebeaa.SetN Go.Proofs.Ytndpkonihcebeaa.Dig
set_option linter.unusedVariables false
set_option linter.unusedSimpArgs false
variable {a b B0 bl bs L S B : Nat} {Q : World → Zone → Int → Prop}

theorem ints_size : (Try.prog.info? 3).map (·.size) = some 1 := by kernel_rfl
theorem ints_under : Try.prog.underlying 23 = some (.slice 3) := by kernel_rfl
theorem run_tail (A : Addr) {n c : Nat} (hc1 : ¬ c = 1) (w : World) : (Instr.sliceAt 23 (.slice (some A) (n + 1) c) (some (.int .i64 1)) none none).run Try.prog w = .ok (.slice (some (A.add 1)) n (c - 1)) w := by
  obtain ⟨inf, hi, hs⟩ := Option.map_eq_some_iff.1 ints_size
  have h1 : (sizeOf 3).run Try.prog w = .ok 1 w := by simp [sizeOf, typeInfo, hi, hs]
  have h2 := run_sliceBound (P := Try.prog) w .i64 1 (n + 1) .sliceB (by omega) (by omega)
  simp [Instr.sliceAt, run_underlying ints_under, Instr.slice, Instr.sliceBounds, h1, h2, hc1]
/-- A slice of slots that nobody turns. -/
def RdS (w : World) (Z : Zone) (A : Option Addr) (ls : List Nat) : Prop := ∀ (j x : Nat), ls[j]? = some x → ∃ ad : Addr, A = some ad ∧ ad.block < w.heap.size ∧ ¬ Z.M ad.block ∧ ¬ Z.T ad.block ∧ w.cell? (ad.add j) = some (.int .i64 (x : Int))
theorem RdS.later {w w' : World} {Z Z' : Zone} {A : Option Addr} {ls : List Nat} (h : RdS w Z A ls) (e : Ext w Z w' Z') : RdS w' Z' A ls := fun j x hj => by
  obtain ⟨ad, h0, h1, h2, h3, h4⟩ := h j x hj
  have g := e.block _ h1 h2 h3
  refine ⟨ad, h0, Nat.lt_of_lt_of_le h1 e.size, g.1, g.2.1, ?_⟩
  rw [World.cell?_of_block (show w'.heap[(ad.add j).block]? = w.heap[(ad.add j).block]? by rw [show (ad.add j).block = ad.block by unfold Addr.add; split <;> rfl]; exact g.2.2)]
  exact h4
theorem RdS.tail {w : World} {Z : Zone} {A : Addr} {x : Nat} {ls : List Nat} (h : RdS w Z (some A) (x :: ls)) : RdS w Z (some (A.add 1)) ls := fun j y hj => by
  obtain ⟨ad, h0, h1, h2, h3, h4⟩ := h (j + 1) y (by simpa using hj)
  obtain rfl := Option.some.inj h0
  have hb : (A.add 1).block = A.block := by unfold Addr.add; split <;> rfl
  refine ⟨_, rfl, by rw [hb]; exact h1, by rw [hb]; exact h2, by rw [hb]; exact h3, ?_⟩
  rw [Addr.add_add, Nat.add_comm 1 j]; exact h4
theorem RdS.head {w : World} {Z : Zone} {A : Addr} {x : Nat} {ls : List Nat} (h : RdS w Z (some A) (x :: ls)) : w.cell? A = some (.int .i64 (x : Int)) ∧ A.block < w.heap.size ∧ ¬ Z.M A.block ∧ ¬ Z.T A.block := by
  obtain ⟨ad, h0, h1, h2, h3, h4⟩ := h 0 x rfl
  obtain rfl := Option.some.inj h0
  have e : A.add 0 = A := by
    cases A
    unfold Addr.add
    split <;> simp_all
  rw [e] at h4
  exact ⟨h4, h1, h2, h3⟩
/-- What becomes of the cells, and of the firsts, when these cells are taken off. -/
def takeX : List Nat → List Int → List Int
  | [], xs => xs
  | i :: r, xs => takeX r (xs.set i 0)
def takeL : List Nat → List Int → List Int → List Int
  | [], _, l => l
  | i :: r, xs, l => takeL r (xs.set i 0) (if xs.getD i 0 = 0 then l else l ++ [xs.getD i 0 - 1])
theorem takeX_len : ∀ (ats : List Nat) (xs : List Int), (takeX ats xs).length = xs.length
  | [], xs => rfl
  | i :: r, xs => by rw [takeX, takeX_len r, List.length_set]
theorem takeL_len : ∀ (ats : List Nat) (xs l : List Int), (takeL ats xs l).length ≤ l.length + ats.length
  | [], xs, l => by simp [takeL]
  | i :: r, xs, l => by
    rw [takeL]
    refine Nat.le_trans (takeL_len r _ _) ?_
    split <;> simp <;> omega
/-- The heads of lists are small numbers. -/
def Heads (P : Nat → Prop) (xs : List Int) : Prop := ∀ i, P i → ∃ f : Nat, f ≤ 1000000 ∧ xs.getD i 0 = (f : Int)
theorem Heads.zero {P : Nat → Prop} {xs : List Int} (h : Heads P xs) (k : Nat) : Heads P (xs.set k 0) := fun i hi => by
  by_cases e : k = i
  · subst e
    refine ⟨0, by omega, ?_⟩
    by_cases hk : k < xs.length
    · simp [List.getD, hk]
    · simp [List.getD, hk]
  · obtain ⟨f, h1, h2⟩ := h i hi
    refine ⟨f, h1, ?_⟩
    rw [← h2]
    simp [List.getD, List.getElem?_set_ne e]
/-- What slots is told to do, for these slots. -/
def SlotsOK (a b B0 bl bs L S B : Nat) (Q : World → Zone → Int → Prop) (lv : Nat) (r : List Nat) : Prop :=
  ∀ {n cc : Nat} {f : FuncId} {cap : Array Value} {w : World} {Z : Zone} {c : Int} {xs l : List Int} {s : Value} {A : Option Addr}, ZOk a b w Z → a < B0 → b < B0 → B0 ≤ w.heap.size → Env w Z bl bs L S → Arena w a b c xs → Own B0 w Z s l → l.length + r.length ≤ 100000 → (∀ i ∈ r, i < S ∧ 1 + L + lv * S + i < xs.length) → Heads (fun i => 1 + L ≤ i) xs → c + r.length < 4611686018427387904 → RdS w Z A r → r.length ≤ cc → cc ≤ 9223372036854775807 → lv < L →
    TakesL a b B0 n f cap w Z (c + r.length) (takeX (r.map fun i => 1 + L + lv * S + i) xs) (takeL (r.map fun i => 1 + L + lv * S + i) xs l) Q →
    Calls Try.prog 132 #[.agg (WV a bl bs L B), .int .i64 (lv : Int), .slice A r.length cc, s, .func (.func f) #[] cap] w (EndsIn a b (n + r.length) w Z c Q)
set_option maxRecDepth 100000 in
set_option maxHeartbeats 2000000 in
/-- slots' continuation. -/
theorem slots1_w {n m cc lv bw bv bls bt : Nat} {f : FuncId} {cap : Array Value} {w : World} {Z : Zone} {c : Int} {s : Value} {A : Addr} (hz : ZOk a b w Z) (hsh : ∃ A n c, s = .slice A n c) (hcc : m + 1 ≤ cc) (hcc2 : cc ≤ 9223372036854775807)
    (h1 : Blk w Z bw (OW a bl bs L B)) (h2 : Blk w Z bv (OI lv)) (h3 : Blk w Z bls (OS (.slice (some A) (m + 1) cc))) (h4 : Blk w Z bt (OL f cap))
    (hr : Calls Try.prog 132 #[.agg (WV a bl bs L B), .int .i64 (lv : Int), if cc = 1 then .slice (some A) 0 0 else .slice (some (A.add 1)) m (cc - 1), s, .func (.func f) #[] cap] w.drew (EndsIn a b n w.drew Z c Q)) :
    Calls Try.prog 149 #[s, .pointer (some ⟨bw, 0, none⟩), .pointer (some ⟨bv, 0, none⟩), .pointer (some ⟨bls, 0, none⟩), .pointer (some ⟨bt, 0, none⟩)] w (EndsIn a b n w Z c Q) := by
  obtain ⟨c0, c1, c2, c3, c4, c5, c6⟩ := wv_cells h1
  have d2 := h2.cell
  have d3 := h3.cell
  have d4 := h4.cell
  have hd : Made w w.drew := Made.drewN w 1
  have HS := Lib.hid (hr.mono fun e w2 he => (show EndsIn a b n w Z c Q e w2 ∧ (w2.cell? ⟨bw, 0, none⟩ = some (.pointer (some ⟨a, 0, none⟩)) ∧ w2.cell? ⟨bw, 1, none⟩ = some (.int .i64 (L : Int)) ∧ w2.cell? ⟨bw, 2, none⟩ = some (.int .i64 (B : Int)) ∧ w2.cell? ⟨bw, 3, none⟩ = some (.int .i64 0) ∧ w2.cell? ⟨bw, 4, none⟩ = some (.func (.func 59) #[] #[]) ∧ w2.cell? ⟨bw, 5, none⟩ = some (.func (.func 60) #[] #[.pointer (some ⟨bl, 0, none⟩), .pointer (some ⟨bs, 0, none⟩)]) ∧ w2.cell? ⟨bw, 6, none⟩ = some (.func (.func 61) #[] #[.pointer (some ⟨bl, 0, none⟩), .pointer (some ⟨bs, 0, none⟩)]) ∧ w2.cell? ⟨bv, 0, none⟩ = some (.int .i64 (lv : Int)) ∧ w2.cell? ⟨bls, 0, none⟩ = some (.slice (some A) (m + 1) cc) ∧ w2.cell? ⟨bt, 0, none⟩ = some (.func (.func f) #[] cap)) ∧ ∃ v, e = .returned v from by
    have he' := he.pre (Work.of_made hz hd)
    obtain ⟨Z2, g1⟩ := blk_ends h1 he'
    obtain ⟨k0, k1, k2, k3, k4, k5, k6⟩ := wv_cells g1
    exact ⟨he', ⟨k0, k1, k2, k3, k4, k5, k6, h2.ends he', h3.ends he', h4.ends he'⟩, he'.value⟩))
  obtain ⟨As, ns, cs, rfl⟩ := hsh
  have hen : m + 1 ≤ 9223372036854775807 := by omega
  clear hz h1 h2 h3 h4 hr hd
  by_cases hc1 : cc = 1
  · subst hc1
    obtain rfl : m = 0 := by omega
    rw [if_pos rfl] at HS
    go_enter Try.func149, Try.ntmps149
    go_wp2_with fail
    go_region_held3 (fun w2 => w2.cell? ⟨bw, 0, none⟩ = some (.pointer (some ⟨a, 0, none⟩)) ∧ w2.cell? ⟨bw, 1, none⟩ = some (.int .i64 (L : Int)) ∧ w2.cell? ⟨bw, 2, none⟩ = some (.int .i64 (B : Int)) ∧ w2.cell? ⟨bw, 3, none⟩ = some (.int .i64 0) ∧ w2.cell? ⟨bw, 4, none⟩ = some (.func (.func 59) #[] #[]) ∧ w2.cell? ⟨bw, 5, none⟩ = some (.func (.func 60) #[] #[.pointer (some ⟨bl, 0, none⟩), .pointer (some ⟨bs, 0, none⟩)]) ∧ w2.cell? ⟨bw, 6, none⟩ = some (.func (.func 61) #[] #[.pointer (some ⟨bl, 0, none⟩), .pointer (some ⟨bs, 0, none⟩)]) ∧ w2.cell? ⟨bv, 0, none⟩ = some (.int .i64 (lv : Int)) ∧ w2.cell? ⟨bls, 0, none⟩ = some (.slice (some A) 1 1) ∧ w2.cell? ⟨bt, 0, none⟩ = some (.func (.func f) #[] cap)) (first | assumption | (refine ⟨?_, ?_, ?_, ?_, ?_, ?_, ?_, ?_, ?_, ?_⟩ <;> first | assumption | simpa using c0 | simpa using c1 | simpa using c2 | simpa using c3 | simpa using c4 | simpa using c5 | simpa using c6 | simpa using d2 | simpa using d3 | simpa using d4)) (first | (go_at_call 132; refine HS.out.mono ?_; rintro e w3 ⟨he, hk, v, rfl⟩))
    all_goals
      go_wp2_with fail
      go_ret
      exact he
  · rw [if_neg hc1] at HS
    have hsl := fun w1 => run_tail A (n := m) hc1 w1
    go_enter Try.func149, Try.ntmps149
    go_wp2_with fail
    go_region_held3 (fun w2 => w2.cell? ⟨bw, 0, none⟩ = some (.pointer (some ⟨a, 0, none⟩)) ∧ w2.cell? ⟨bw, 1, none⟩ = some (.int .i64 (L : Int)) ∧ w2.cell? ⟨bw, 2, none⟩ = some (.int .i64 (B : Int)) ∧ w2.cell? ⟨bw, 3, none⟩ = some (.int .i64 0) ∧ w2.cell? ⟨bw, 4, none⟩ = some (.func (.func 59) #[] #[]) ∧ w2.cell? ⟨bw, 5, none⟩ = some (.func (.func 60) #[] #[.pointer (some ⟨bl, 0, none⟩), .pointer (some ⟨bs, 0, none⟩)]) ∧ w2.cell? ⟨bw, 6, none⟩ = some (.func (.func 61) #[] #[.pointer (some ⟨bl, 0, none⟩), .pointer (some ⟨bs, 0, none⟩)]) ∧ w2.cell? ⟨bv, 0, none⟩ = some (.int .i64 (lv : Int)) ∧ w2.cell? ⟨bls, 0, none⟩ = some (.slice (some A) (m + 1) cc) ∧ w2.cell? ⟨bt, 0, none⟩ = some (.func (.func f) #[] cap)) (first | assumption | (refine ⟨?_, ?_, ?_, ?_, ?_, ?_, ?_, ?_, ?_, ?_⟩ <;> first | assumption | simpa using c0 | simpa using c1 | simpa using c2 | simpa using c3 | simpa using c4 | simpa using c5 | simpa using c6 | simpa using d2 | simpa using d3 | simpa using d4)) (first | (go_at_call 132; refine HS.out.mono ?_; rintro e w3 ⟨he, hk, v, rfl⟩))
    all_goals
      go_wp2_with fail
      go_ret
      exact he
end Go.Proofs.Ytndpkonihcebeaa.Whl
