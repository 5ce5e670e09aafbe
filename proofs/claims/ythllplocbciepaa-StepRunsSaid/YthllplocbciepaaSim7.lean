/- What a step of the document's answer for layer 7 comes to, told by the machine of acts. -/
import Derived.Test.YthllplocbciepaaPure7
import Derived.Test.YthllplocbciepaaRef7b
namespace Go.Proofs.Ythllplocbciepaa.Cod.Seven
open Go.RowKit Go.Proofs.Ythllplocbciepaa Go.Proofs.Ythllplocbciepaa.Cell Go.Proofs.Ythllplocbciepaa.Ref7
set_option linter.unusedVariables false
set_option linter.unusedSimpArgs false
variable {a b sb ns : Nat}

/-- What is told, by the document's answer. -/
def sum1 (s vl : Int) : Int := IntKind.u64.wrap (IntKind.u64.wrap (s * 3) + vl)
def sum3 (s vl : Int) (ok : Bool) (k : Int) : Int := if ok && decide (k = 3) then IntKind.u64.wrap (sum1 s vl + 1) else sum1 s vl
theorem act_idle {x : Acc} {i : Nat} {σ : St R7} (h : x.kind < 0 ∨ 3 < x.kind) : act x i σ = σ := by
  unfold act
  rw [if_neg (by omega), if_neg (by omega), if_neg (by omega), if_neg (by omega)]
theorem sum1_mod (s vl : Int) : sum1 s vl = (s * 3 + vl) % 18446744073709551616 := by
  unfold sum1
  simp only [IntKind.wrap_u64]
  omega
theorem act_none {x : Acc} {i : Nat} {σ : St R7} (hk : ¬ x.kind < 0) (hk' : ¬ 3 < x.kind) (h : x.i < 0 ∨ (σ.xs.length : Int) ≤ x.i) :
    (act x i σ).xs = σ.xs ∧ (act x i σ).c = σ.c ∧ (act x i σ).r.sums = σ.r.sums.set i (sum3 (σ.r.sums.getD i 0) 0 false x.kind) := by
  have hn : ¬ (0 ≤ x.i ∧ x.i.toNat < σ.xs.length) := by omega
  have e : sum3 (σ.r.sums.getD i 0) 0 false x.kind = (σ.r.sums.getD i 0 * 3 + 0) % 18446744073709551616 := by
    unfold sum3
    rw [if_neg (by simp), sum1_mod]
  rw [e]
  unfold act tell St.swp St.cas St.sto St.ld
  have h4 : x.kind = 0 ∨ x.kind = 1 ∨ x.kind = 2 ∨ x.kind = 3 := by omega
  rcases h4 with h4 | h4 | h4 | h4 <;> simp [h4, hn]
theorem act_do {x : Acc} {i : Nat} {σ : St R7} (hk : ¬ x.kind < 0) (hk' : ¬ 3 < x.kind) {q : Nat} (hq : x.i = (q : Int)) (h : q < σ.xs.length) {was : Int} (hw : σ.xs[q] = was) :
    (act x i σ).xs = σ.xs.set q (Ref2.now x.kind x.old x.v was) ∧ (act x i σ).c = σ.c + 1 ∧ (act x i σ).r.sums = σ.r.sums.set i (sum3 (σ.r.sums.getD i 0) (Ref2.val x.kind was) (Ref2.isOk x.kind x.old was) x.kind) := by
  have hy : 0 ≤ x.i ∧ x.i.toNat < σ.xs.length := by omega
  have hqt : x.i.toNat = q := by omega
  have es : σ.xs.set q was = σ.xs := Ref2.set_was h hw
  have h4 : x.kind = 0 ∨ x.kind = 1 ∨ x.kind = 2 ∨ x.kind = 3 := by omega
  unfold act tell St.swp St.cas St.sto St.ld Ref2.now Ref2.val Ref2.isOk sum3
  simp only [sum1_mod]
  rcases h4 with h4 | h4 | h4 | h4
  · simp [h4, hy, hqt, hw, es, h]
  · simp [h4, hy, hqt, hw, es, h]
  · simp [h4, hy, hqt, hw, es, h]
  · by_cases ho : was = x.old
    · subst ho
      simp [h4, hy, hqt, hw, es, h, IntKind.wrap_u64]
    · simp [h4, hy, hqt, hw, es, h, ho]
/-- A step of a task that has acts left. -/
theorem Step_r {M : Mach (S7 a b sb ns)} {i d m c0 n c : Nat} {l : List Acc} {A T : Option Addr} {w : World} {s : Int} (hk : M.ks[i]? = some (i, l.drop d)) (hd : d < l.length) (hm : m = M.σ.xs.length) (hx : M.σ.xs.length ≤ 1048576) (hc : 0 ≤ M.σ.c ∧ M.σ.c < 4611686018427387904)
    (hi : i < M.σ.r.sums.length) (hs : M.σ.r.sums.getD i 0 = s) (hA : Rd .u64 w w.heap.size A M.σ.xs) (hT : RdA w w.heap.size T l) (hn : n = l.length) (hnn : (n : Int) ≤ 9223372036854775807) :
    Calls Try.prog 75 #[.agg #[.slice A m c0, .int .i64 M.σ.c], tv T n c d s] w (StepPost A w (M.step i).σ.xs (M.step i).σ.c T n c (d + 1) ((M.step i).σ.r.sums.getD i 0)) := by
  obtain ⟨x, hx0⟩ : ∃ x, x = l[d] := ⟨_, rfl⟩
  have hdrop : l.drop d = x :: l.drop (d + 1) := by rw [hx0]; exact List.drop_eq_getElem_cons hd
  rw [hdrop] at hk
  rw [step_cons hk]
  simp only
  generalize hσ : ({ M.σ with steps := M.σ.steps.set i (M.σ.steps.getD i 0 + 1) } : St R7) = τ
  have e1 : τ.xs = M.σ.xs := by rw [← hσ]
  have e2 : τ.c = M.σ.c := by rw [← hσ]
  have e3 : τ.r = M.σ.r := by rw [← hσ]
  rw [← e1] at hA hm hx
  rw [← e2] at hc ⊢
  rw [← e3] at hi hs
  clear hσ e1 e2 e3 hk hdrop
  obtain ⟨T, rfl, ht, q0, q1, q2, q3⟩ := hT d hd
  rw [← hx0] at q0 q1 q2 q3
  clear hx0 hT
  by_cases hid : x.kind < 0 ∨ 3 < x.kind
  · rw [act_idle hid, hs]
    exact Step_idle A m c0 τ.c T n c d s _ _ _ _ τ.xs hm (by omega) hnn w hA ht q0 q1 q2 q3 hid
  · have h0 : ¬ x.kind < 0 := fun e => hid (Or.inl e)
    have h3 : ¬ 3 < x.kind := fun e => hid (Or.inr e)
    by_cases hno : x.i < 0 ∨ (τ.xs.length : Int) ≤ x.i
    · obtain ⟨g1, g2, g3⟩ := act_none (i := i) h0 h3 hno
      have e : (act x i τ).r.sums.getD i 0 = sum3 s 0 false x.kind := by
        rw [g3, List.getD_eq_getElem?_getD, List.getElem?_set_self hi, hs]; rfl
      rw [g1, g2, e]
      exact Step_do A m c0 τ.c T n c d s _ _ _ _ τ.xs hm (by omega) hnn w hA ht q0 q1 q2 q3 h0 h3 τ.xs rfl τ.c 0 false (fun w' hr => Ref2.Do_none A m c0 τ.c x.kind x.i x.old x.v τ.xs hm (by omega) (by omega) w' hr) _ _ rfl rfl
    · obtain ⟨q, hq⟩ : ∃ q : Nat, x.i = (q : Int) := ⟨x.i.toNat, by omega⟩
      have hqx : q < τ.xs.length := by omega
      obtain ⟨g1, g2, g3⟩ := act_do (i := i) h0 h3 hq hqx rfl
      have e : (act x i τ).r.sums.getD i 0 = sum3 s (Ref2.val x.kind τ.xs[q]) (Ref2.isOk x.kind x.old τ.xs[q]) x.kind := by
        rw [g3, List.getD_eq_getElem?_getD, List.getElem?_set_self hi, hs]; rfl
      rw [g1, g2, e]
      refine Step_do A m c0 τ.c T n c d s _ _ _ _ τ.xs hm (by omega) hnn w hA ht q0 q1 q2 q3 h0 h3 _ (by rw [List.length_set]) (τ.c + 1) _ _ (fun w' hr => ?_) _ _ rfl rfl
      rw [hq]
      have := Ref2.Do_some A m c0 τ.c x.kind q x.old x.v τ.xs[q] τ.xs hm (by omega) (by omega) hc.1 hc.2 w' hr (fun _ => rfl) ⟨by omega, by omega⟩
      exact this
end Go.Proofs.Ythllplocbciepaa.Cod.Seven
