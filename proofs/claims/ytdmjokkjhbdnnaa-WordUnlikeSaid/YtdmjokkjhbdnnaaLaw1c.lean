/- WordUnlike, walked: it answers true for every two rows of four numbers. -/
import Derived.Test.YtdmjokkjhbdnnaaLaw1
import Derived.Test.YtdmjokkjhbdnnaaArr
import Derived.BigGuardPart
import Derived.Test.YtdmjokkjhbdnnaaOpen
namespace Go.Proofs.Ytdmjokkjhbdnnaa.Law1
open Go.RowKit Go.Proofs.Ytdmjokkjhbdnnaa Go.Proofs.Ytdmjokkjhbdnnaa.Num Go.Proofs.Ytdmjokkjhbdnnaa.Wd
set_option linter.unusedVariables false
set_option linter.unusedSimpArgs false

theorem packed_two (ps : List (Nat × Int)) : 0 ≤ (packed ps).2 ∧ (packed ps).2 ≤ 2 := by unfold packed; split <;> simp
theorem packed_inj {ps qs : List (Nat × Int)} (hw : ps.map (·.1) = qs.map (·.1)) (hs : (ps.map (·.1)).sum ≤ 64) (h : (packed ps).2 + (packed qs).2 = 0) (he : (packed ps).1 = (packed qs).1) : ps = qs := by
  have h1 := packed_two ps
  have h2 := packed_two qs
  cases hp : laid ps 64 with
  | none => rw [packed_none hp] at h h1; simp at h; omega
  | some x =>
    cases hq : laid qs 64 with
    | none => rw [packed_none hq] at h h2; simp at h; omega
    | some y =>
      rw [packed_some hp, packed_some hq] at he
      simp only at he
      subst he
      exact laid_inj ps qs 64 x hw hs hp hq
theorem head_two (c i : Int) : 0 ≤ (headPacked c i).2 ∧ (headPacked c i).2 ≤ 2 := by unfold headPacked; split; simp; exact packed_two _
theorem head_inj {c i d j : Int} (h : (headPacked c i).2 + (headPacked d j).2 = 0) (he : (headPacked c i).1 = (headPacked d j).1) : c = d ∧ i = j := by
  have h1 := head_two c i
  have h2 := head_two d j
  unfold headPacked at h he h1 h2
  by_cases b1 : i < -1 ∨ 4294967295 ≤ i
  · rw [if_pos b1] at h h1; simp at h; omega
  · by_cases b2 : j < -1 ∨ 4294967295 ≤ j
    · rw [if_pos b2] at h h2; simp at h; omega
    · rw [if_neg b1, if_neg b2] at h he
      have := packed_inj (by simp) (by simp) h he
      simp at this
      omega

/-- What a law's walk is told of two words: their errors, and that they part where the numbers do. -/
structure Two (P Q : Nat × Int) : Prop where
  p0 : 0 ≤ P.2
  p2 : P.2 ≤ 2
  q0 : 0 ≤ Q.2
  q2 : Q.2 ≤ 2
theorem two3 (n1 n2 n3 : Nat) (a b c d e f : Int) : Two (packed [(n1, a), (n2, b), (n3, c)]) (packed [(n1, d), (n2, e), (n3, f)]) := ⟨(packed_two _).1, (packed_two _).2, (packed_two _).1, (packed_two _).2⟩
theorem part3 (n1 n2 n3 : Nat) (a b c d e f : Int) (hs : n1 + n2 + n3 ≤ 64) (hne : ¬ (a = d ∧ b = e ∧ c = f)) (h : ((packed [(n1, a), (n2, b), (n3, c)]).2 + (packed [(n1, d), (n2, e), (n3, f)]).2 == 0) = true) :
    (((packed [(n1, a), (n2, b), (n3, c)]).1 : Int) == ((packed [(n1, d), (n2, e), (n3, f)]).1 : Int)) = false := by
  rw [beq_eq_false_iff_ne]
  intro e'
  have := packed_inj (ps := [(n1, a), (n2, b), (n3, c)]) (qs := [(n1, d), (n2, e), (n3, f)]) (by rfl) (by simp; omega) (by simpa using h) (by exact_mod_cast e')
  simp at this
  exact hne this
theorem part4 (n1 n2 n3 n4 : Nat) (a b c g d e f k : Int) (hs : n1 + n2 + n3 + n4 ≤ 64) (hne : ¬ (a = d ∧ b = e ∧ c = f ∧ g = k)) (h : ((packed [(n1, a), (n2, b), (n3, c), (n4, g)]).2 + (packed [(n1, d), (n2, e), (n3, f), (n4, k)]).2 != 0) = false) :
    (((packed [(n1, a), (n2, b), (n3, c), (n4, g)]).1 : Int) == ((packed [(n1, d), (n2, e), (n3, f), (n4, k)]).1 : Int)) = false := by
  rw [beq_eq_false_iff_ne]
  intro e'
  have := packed_inj (ps := [(n1, a), (n2, b), (n3, c), (n4, g)]) (qs := [(n1, d), (n2, e), (n3, f), (n4, k)]) (by rfl) (by simp; omega) (by simpa using h) (by exact_mod_cast e')
  simp at this
  exact hne this
theorem partH (c i d j : Int) (hne : ¬ (c = d ∧ i = j)) (h : ((headPacked c i).2 + (headPacked d j).2 != 0) = false) : (((headPacked c i).1 : Int) == ((headPacked d j).1 : Int)) = false := by
  rw [beq_eq_false_iff_ne]
  intro e'
  exact hne (head_inj (by simpa using h) (by exact_mod_cast e'))

theorem eq4 (a0 a1 a2 a3 b0 b1 b2 b3 : Int) (w : World) : (binOp .eql 22 (.agg #[.int .i64 a0, .int .i64 a1, .int .i64 a2, .int .i64 a3]) (.agg #[.int .i64 b0, .int .i64 b1, .int .i64 b2, .int .i64 b3])).run Try.prog w = .ok (.bool ([a0, a1, a2, a3] == [b0, b1, b2, b3])) w :=
  run_eql_ints Try.underlying22 Try.underlying3 (by kernel_rfl) [a0, a1, a2, a3] [b0, b1, b2, b3] rfl rfl w

/-- The contracts that the walk meets, with the words and the errors as plain numbers. -/
structure Words8 (a0 a1 a2 a3 : Int) (s h x l : Nat) (es eh ex el : Int) : Prop where
  cs : ∀ w : World, Calls Try.prog 14 #[.agg #[.int .i64 a0, .int .i64 a1, .int .i64 a2]] w fun e w' => e = .returned (.tuple #[.int .u64 (s : Int), .int .i64 es]) ∧ Made w w'
  ch : ∀ w : World, Calls Try.prog 15 #[.agg #[.int .i64 a0, .int .i64 a1, .int .i64 a2]] w fun e w' => e = .returned (.tuple #[.int .u64 (h : Int), .int .i64 eh]) ∧ Made w w'
  cx : ∀ w : World, Calls Try.prog 16 #[.agg #[.int .i64 a0, .int .i64 a1, .int .i64 a2, .int .i64 a3]] w fun e w' => e = .returned (.tuple #[.int .u64 (x : Int), .int .i64 ex]) ∧ Made w w'
  cl : ∀ w : World, Calls Try.prog 17 #[.agg #[.int .i64 a0, .int .i64 a1]] w fun e w' => e = .returned (.tuple #[.int .u64 (l : Int), .int .i64 el]) ∧ Made w w'
theorem words8 (a0 a1 a2 a3 : Int) (h0 : I64 a0) (h1 : I64 a1) (h2 : I64 a2) (h3 : I64 a3) :
    Words8 a0 a1 a2 a3 (packed [(32, a0), (30, a1), (2, a2)]).1 (packed [(32, a0), (16, a1), (16, a2)]).1 (packed [(26, a0), (5, a1), (3, a2), (30, a3)]).1 (headPacked a0 a1).1
      (packed [(32, a0), (30, a1), (2, a2)]).2 (packed [(32, a0), (16, a1), (16, a2)]).2 (packed [(26, a0), (5, a1), (3, a2), (30, a3)]).2 (headPacked a0 a1).2 :=
  ⟨fun w => StateWord_c _ _ _ h0 h1 h2 w, fun w => HomeWord_c _ _ _ h0 h1 h2 w, fun w => ConnWord_c _ _ _ _ h0 h1 h2 h3 w, fun w => HeadWord_c _ _ h0 h1 w⟩

/-- The two boxes of the arguments, as a world holds them. -/
def Boxes (W : World) (B : Nat) (a0 a1 a2 a3 b0 b1 b2 b3 : Int) : Prop :=
  W.cell? ⟨B, 0, none⟩ = some (.int .i64 a0) ∧ W.cell? ⟨B, 1, none⟩ = some (.int .i64 a1) ∧ W.cell? ⟨B, 2, none⟩ = some (.int .i64 a2) ∧ W.cell? ⟨B, 3, none⟩ = some (.int .i64 a3) ∧
  W.cell? ⟨B + 1, 0, none⟩ = some (.int .i64 b0) ∧ W.cell? ⟨B + 1, 1, none⟩ = some (.int .i64 b1) ∧ W.cell? ⟨B + 1, 2, none⟩ = some (.int .i64 b2) ∧ W.cell? ⟨B + 1, 3, none⟩ = some (.int .i64 b3) ∧ B + 1 < W.heap.size
theorem Boxes.later {W W' : World} {B : Nat} {a0 a1 a2 a3 b0 b1 b2 b3 : Int} (h : Boxes W B a0 a1 a2 a3 b0 b1 b2 b3) (hM : Made W W') : Boxes W' B a0 a1 a2 a3 b0 b1 b2 b3 := by
  obtain ⟨c0, c1, c2, c3, d0, d1, d2, d3, hz⟩ := h
  have hs := hM.size
  refine ⟨?_, ?_, ?_, ?_, ?_, ?_, ?_, ?_, by omega⟩
  all_goals (refine (hM.cell (p := ⟨_, _, none⟩) (by simp; omega)).trans ?_; assumption)

set_option maxRecDepth 100000 in
set_option maxHeartbeats 4000000 in
theorem unlike_any (a0 a1 a2 a3 b0 b1 b2 b3 : Int) (s h x l t i y m : Nat) (es eh ex el et ei ey em : Int) (HA : Hid (Words8 a0 a1 a2 a3 s h x l es eh ex el)) (HB : Hid (Words8 b0 b1 b2 b3 t i y m et ei ey em))
    (bs : 0 ≤ es ∧ es ≤ 2) (bh : 0 ≤ eh ∧ eh ≤ 2) (bx : 0 ≤ ex ∧ ex ≤ 2) (bl : 0 ≤ el ∧ el ≤ 2) (bt : 0 ≤ et ∧ et ≤ 2) (bi : 0 ≤ ei ∧ ei ≤ 2) (by' : 0 ≤ ey ∧ ey ≤ 2) (bm : 0 ≤ em ∧ em ≤ 2)
    (q0 q1 q2 q3 : Bool) (e0 : (a0 == b0) = q0) (e1 : (a1 == b1) = q1) (e2 : (a2 == b2) = q2) (eq : Hid (([a0, a1, a2, a3] == [b0, b1, b2, b3]) = q3))
    (hs : (es + et == 0) = true → ((s : Int) == (t : Int)) = (q0 && q1 && q2)) (hh : (eh + ei == 0) = true → ((h : Int) == (i : Int)) = (q0 && q1 && q2))
    (hx : (ex + ey != 0) = false → ((x : Int) == (y : Int)) = q3) (hl : (el + em != 0) = false → ((l : Int) == (m : Int)) = (q0 && q1)) (w : World) :
    Calls Try.prog 3 #[.agg #[.int .i64 a0, .int .i64 a1, .int .i64 a2, .int .i64 a3], .agg #[.int .i64 b0, .int .i64 b1, .int .i64 b2, .int .i64 b3]] w fun e w' => e = .returned (.bool true) ∧ Made w w' := by
  have heq : ∀ w : World, (binOp .eql 22 (.agg #[.int .i64 a0, .int .i64 a1, .int .i64 a2, .int .i64 a3]) (.agg #[.int .i64 b0, .int .i64 b1, .int .i64 b2, .int .i64 b3])).run Try.prog w = .ok (.bool q3) w := fun w => by rw [eq4, eq.out]
  go_enter Try.func3, Try.ntmps3
  go_wp2_with fail
  refine (speaks_c _).mono ?_
  rintro e w1 ⟨rfl, hM1⟩
  have hb0 : Boxes w1 w.heap.size a0 a1 a2 a3 b0 b1 b2 b3 := by
    refine Boxes.later ?_ hM1
    refine ⟨?_, ?_, ?_, ?_, ?_, ?_, ?_, ?_, by simp⟩ <;> go_simp
  have hM : Made w w1 := Made.trans (((Made.refl w).alloc (Nat.le_refl _) _).alloc (by simp) _) hM1
  clear hM1
  obtain ⟨c0, c1, c2, c3, d0, d1, d2, d3, _⟩ := id hb0
  go_wp2_with fail
  refine (HA.out.cs _).mono ?_
  rintro e w2 ⟨rfl, hN⟩
  clear c0 c1 c2 c3 d0 d1 d2 d3
  have hb1 := hb0.later hN
  have hM1 := Made.trans hM hN
  clear hN hb0 hM
  obtain ⟨c0, c1, c2, c3, d0, d1, d2, d3, _⟩ := id hb1
  go_wp2_with fail
  refine (HB.out.cs _).mono ?_
  rintro e w3 ⟨rfl, hN⟩
  clear c0 c1 c2 c3 d0 d1 d2 d3
  have hb2 := hb1.later hN
  have hM2 := Made.trans hM1 hN
  clear hN hb1 hM1
  obtain ⟨c0, c1, c2, c3, d0, d1, d2, d3, _⟩ := id hb2
  go_wp2_with fail
  refine (HA.out.ch _).mono ?_
  rintro e w4 ⟨rfl, hN⟩
  clear c0 c1 c2 c3 d0 d1 d2 d3
  have hb3 := hb2.later hN
  have hM3 := Made.trans hM2 hN
  clear hN hb2 hM2
  obtain ⟨c0, c1, c2, c3, d0, d1, d2, d3, _⟩ := id hb3
  go_wp2_with fail
  refine (HB.out.ch _).mono ?_
  rintro e w5 ⟨rfl, hN⟩
  clear c0 c1 c2 c3 d0 d1 d2 d3
  have hb4 := hb3.later hN
  have hM4 := Made.trans hM3 hN
  clear hN hb3 hM3
  obtain ⟨c0, c1, c2, c3, d0, d1, d2, d3, _⟩ := id hb4
  go_wp2_with fail
  refine (HA.out.cx _).mono ?_
  rintro e w6 ⟨rfl, hN⟩
  clear c0 c1 c2 c3 d0 d1 d2 d3
  have hb5 := hb4.later hN
  have hM5 := Made.trans hM4 hN
  clear hN hb4 hM4
  obtain ⟨c0, c1, c2, c3, d0, d1, d2, d3, _⟩ := id hb5
  go_wp2_with fail
  refine (HB.out.cx _).mono ?_
  rintro e w7 ⟨rfl, hN⟩
  clear c0 c1 c2 c3 d0 d1 d2 d3
  have hb6 := hb5.later hN
  have hM6 := Made.trans hM5 hN
  clear hN hb5 hM5
  obtain ⟨c0, c1, c2, c3, d0, d1, d2, d3, _⟩ := id hb6
  go_wp2_with fail
  refine (HA.out.cl _).mono ?_
  rintro e w8 ⟨rfl, hN⟩
  clear c0 c1 c2 c3 d0 d1 d2 d3
  have hb7 := hb6.later hN
  have hM7 := Made.trans hM6 hN
  clear hN hb6 hM6
  obtain ⟨c0, c1, c2, c3, d0, d1, d2, d3, _⟩ := id hb7
  go_wp2_with fail
  refine (HB.out.cl _).mono ?_
  rintro e w9 ⟨rfl, hN⟩
  clear c0 c1 c2 c3 d0 d1 d2 d3
  have hb8 := hb7.later hN
  have hM8 := Made.trans hM7 hN
  clear hN hb7 hM7
  obtain ⟨c0, c1, c2, c3, d0, d1, d2, d3, _⟩ := id hb8
  clear HA HB
  go_wp2_with fail
  all_goals first | (go_ret; exact ⟨rfl, hM8⟩) | (go_ret; exact ⟨retb_of (by simp_all), hM8⟩)

theorem unlike_c (a0 a1 a2 a3 b0 b1 b2 b3 : Int) (h0 : I64 a0) (h1 : I64 a1) (h2 : I64 a2) (h3 : I64 a3) (k0 : I64 b0) (k1 : I64 b1) (k2 : I64 b2) (k3 : I64 b3) (w : World) :
    Calls Try.prog 3 #[.agg #[.int .i64 a0, .int .i64 a1, .int .i64 a2, .int .i64 a3], .agg #[.int .i64 b0, .int .i64 b1, .int .i64 b2, .int .i64 b3]] w fun e w' => e = .returned (.bool true) ∧ Made w w' := by
  have H3 : ∀ n1 n2 n3 : Nat, n1 + n2 + n3 ≤ 64 → ((packed [(n1, a0), (n2, a1), (n3, a2)]).2 + (packed [(n1, b0), (n2, b1), (n3, b2)]).2 == 0) = true →
      (((packed [(n1, a0), (n2, a1), (n3, a2)]).1 : Int) == ((packed [(n1, b0), (n2, b1), (n3, b2)]).1 : Int)) = ((a0 == b0) && (a1 == b1) && (a2 == b2)) := by
    intro n1 n2 n3 hs h
    by_cases hq : a0 = b0 ∧ a1 = b1 ∧ a2 = b2
    · obtain ⟨rfl, rfl, rfl⟩ := hq; simp
    · rw [part3 _ _ _ _ _ _ _ _ _ hs hq h]
      symm
      rw [Bool.eq_false_iff]
      intro hc
      simp at hc
      exact hq ⟨hc.1.1, hc.1.2, hc.2⟩
  refine unlike_any a0 a1 a2 a3 b0 b1 b2 b3 _ _ _ _ _ _ _ _ _ _ _ _ _ _ _ _ (words8 a0 a1 a2 a3 h0 h1 h2 h3) (words8 b0 b1 b2 b3 k0 k1 k2 k3) (packed_two _) (packed_two _) (packed_two _) (head_two _ _) (packed_two _) (packed_two _) (packed_two _) (head_two _ _)
    _ _ _ _ rfl rfl rfl rfl (H3 32 30 2 (by omega)) (H3 32 16 16 (by omega)) ?_ ?_ w
  · intro h
    by_cases hq : a0 = b0 ∧ a1 = b1 ∧ a2 = b2 ∧ a3 = b3
    · obtain ⟨rfl, rfl, rfl, rfl⟩ := hq; simp
    · rw [part4 _ _ _ _ _ _ _ _ _ _ _ _ (by omega) hq h]
      symm
      rw [beq_eq_false_iff_ne]
      intro hc
      simp at hc
      exact hq hc
  · intro h
    by_cases hq : a0 = b0 ∧ a1 = b1
    · obtain ⟨rfl, rfl⟩ := hq; simp
    · rw [partH _ _ _ _ hq h]
      symm
      rw [Bool.eq_false_iff]
      intro hc
      simp at hc
      exact hq hc

theorem i64_wf {a : Int} (h : (Lit.int .i64 a).wf = true) : I64 a := by
  simp [Lit.wf, IntKind.min, IntKind.max, IntKind.signed, IntKind.bits] at h
  exact h
theorem unlike (xs ys : List Int) (w : World) (hx : xs.length = 4) (wx : ∀ z ∈ xs, (Lit.int .i64 z).wf = true) (hy : ys.length = 4) (wy : ∀ z ∈ ys, (Lit.int .i64 z).wf = true) :
    Calls Try.prog 3 #[.agg (xs.map (Value.int .i64)).toArray, .agg (ys.map (Value.int .i64)).toArray] w fun e w' => e = .returned (.bool true) ∧ Made w w' := by
  obtain ⟨a0, a1, a2, a3, rfl⟩ := four xs hx
  obtain ⟨b0, b1, b2, b3, rfl⟩ := four ys hy
  exact unlike_c a0 a1 a2 a3 b0 b1 b2 b3 (i64_wf (wx _ (by simp))) (i64_wf (wx _ (by simp))) (i64_wf (wx _ (by simp))) (i64_wf (wx _ (by simp))) (i64_wf (wy _ (by simp))) (i64_wf (wy _ (by simp))) (i64_wf (wy _ (by simp))) (i64_wf (wy _ (by simp))) w
end Go.Proofs.Ytdmjokkjhbdnnaa.Law1
