/- Layer 8's laws: Finish of a task alone; how a worker begins. -/
import Derived.Test.YthllplocbciepaaSolo8b
namespace Go.Proofs.Ythllplocbciepaa.Kod.Eight
open Go.RowKit Go.Proofs.Ythllplocbciepaa Go.Proofs.Ythllplocbciepaa.Cell Go.Proofs.Ythllplocbciepaa.Wd
set_option linter.unusedVariables false
set_option linter.unusedSimpArgs false
variable {a b : Nat} {gb : Nat → Nat}

theorem enter_steps {j : Nat} : ∀ (l : List Bool) {σ : St (List W8)} {k : K8} {τ : St (List W8)} (st : List Nat), enter j l σ = some (k, τ) → enter j l { σ with steps := st } = some (k, { τ with steps := st })
  | [], σ, k, τ, st, h => by
    have h' := Option.some.inj h
    simp only [Prod.mk.injEq] at h'
    obtain ⟨rfl, rfl⟩ := h'
    rfl
  | true :: l, σ, k, τ, st, h => by
    obtain ⟨x, hx, h'⟩ := enter_pop h
    simp only [Prod.mk.injEq] at h'
    obtain ⟨rfl, rfl⟩ := h'
    unfold enter
    simp only [hx]
    rfl
  | false :: l, σ, k, τ, st, h => by
    obtain ⟨x, hx, h'⟩ := enter_push h
    unfold enter
    simp only [hx]
    rcases h' with ⟨h0, h'⟩ | ⟨i, hi, h'⟩
    · simp only [h0, List.getLast?_nil]
      exact enter_steps l st h'
    · simp only [Prod.mk.injEq] at h'
      obtain ⟨rfl, rfl⟩ := h'
      simp only [hi]
theorem over_done {ks : List K8} {τ : St (List W8)} {p : Nat} : (mk a b gb (ks.set p .done) τ).over p = true := by
  by_cases h : p < ks.length
  · have e : (mk a b gb (ks.set p .done) τ).ks[p]? = some .done := List.getElem?_set_self h
    exact over_at e
  · have e : (mk a b gb (ks.set p .done) τ).ks[p]? = none := List.getElem?_eq_none (by show (ks.set p K8.done).length ≤ p; rw [List.length_set]; omega)
    unfold Mach.over
    rw [e]
theorem can_over {M : Mach (S8 a b gb)} {p : Nat} (h : M.over p = true) : M.can p := fun k hk hn => by
  unfold Mach.over at h
  rw [hk] at h
  simp only at h
  rw [hn] at h
  simp at h
/-- A task that is alone is through. -/
theorem Finish_way {m n N t p : Nat} {M M' : Mach (S8 a b gb)} {rs : List Value} {L : Lay} {w : World} (h : Ready (S8 a b gb) (m + N) (n + 2 * N) M rs L w) {tb : Nat} (ht : L.ts[p]? = some tb) (hw : Way p t M M') (ho : M'.over p = true) (hN : t ≤ N) (most : Nat) (hm : t ≤ most) :
    Calls Try.prog 45 #[.pointer (some ⟨tb, 0, none⟩), .int .i64 (most : Int)] w (Finished (S8 a b gb) m n M' p L w) := by
  obtain ⟨h1, h2⟩ := hw.fin
  have h3 : ∀ d, M.fin p (t + d) = M' := fun d => by rw [Mach.fin_over (by rw [h1]; exact ho) d, h1]
  have h4 := Finish_c h ht (most : Int) (fun j _ hj => by
    by_cases hjt : j < t
    · omega
    · have h5 := h3 (j - t)
      rw [show t + (j - t) = j by omega] at h5
      rw [h5, ho] at hj
      simp at hj) (fun j _ => by
    by_cases hjt : j < t
    · exact (h2 j hjt).2
    · have h5 := h3 (j - t)
      rw [show t + (j - t) = j by omega] at h5
      rw [h5]
      exact can_over ho)
  have h5 := h3 (most - t)
  rw [show t + (most - t) = most by omega] at h5
  rw [show ((most : Int)).toNat = most by omega, h5] at h4
  exact h4
/-- The beginning: an arena, a worker that notes what it is told. -/
theorem begin_got {N wb : Nat} {w : World} {xs : List Int} {hv sv : Value} {x : W8} {own : Nat → Prop} (hA : Arena w a b 0 xs) (hw : ∀ x ∈ xs, 0 ≤ x ∧ x < 18446744073709551616) (hl : xs.length ≤ 1048576) (hN : N < 4611686018427387904)
    (ho : ∀ k, own k → k ≠ a ∧ k ≠ b ∧ k < w.heap.size) (hk : Wk own w wb (gb 0) x hv sv) (hs : ∀ k, hv.ownBlock = some k → sv.ownBlock ≠ some k) (hn : x.got = none → sv.ownBlock = none) :
    Inv (S8 a b gb) N ⟨0, xs, [], [x]⟩ [] ⟨[], own, fun _ => False, [wb]⟩ w := by
  refine Inv.start (S := S8 a b gb) hA hw hl hN ho ⟨fun _ => hv, fun _ => sv, rfl, by simp, fun j y c h1 h2 => ?_, fun i j k hi hj hij => ?_, fun i j k hi hj => hs k, fun i j k hi hj hij => ?_, fun j y hy hg => ?_, fun i j y z hij h1 h2 => ?_⟩
  · cases j with
    | zero =>
      obtain rfl : x = y := by simpa using h1
      obtain rfl : wb = c := by simpa using h2
      exact hk
    | succ j => simp at h1
  · simp at hi hj; omega
  · simp at hi hj; omega
  · cases j with
    | zero =>
      obtain rfl : x = y := by simpa using hy
      exact hn hg
    | succ j => simp at hy
  · have := (List.getElem?_eq_some_iff.1 h1).1
    have := (List.getElem?_eq_some_iff.1 h2).1
    simp at *
    omega
end Go.Proofs.Ythllplocbciepaa.Kod.Eight
