/- Layer 8's laws: a Pop alone, whatever is noted meanwhile. -/
import Derived.Test.YthllplocbciepaaSolo8b
namespace Go.Proofs.Ythllplocbciepaa.Kod.Eight
open Go.RowKit Go.Proofs.Ythllplocbciepaa Go.Proofs.Ythllplocbciepaa.Cell Go.Proofs.Ythllplocbciepaa.Wd
set_option linter.unusedVariables false
set_option linter.unusedSimpArgs false
variable {a b : Nat} {gb : Nat → Nat}

theorem solo_none {p j : Nat} {ks : List K8} {τ0 : St (List W8)} {y : W8} (hk : ks[p]? = some (.popL j [])) (hr : τ0.r[j]? = some y) (hs : Stk τ0.xs []) (hrm : room y) :
    ∃ τ', Way p 1 (mk a b gb ks τ0) (mk a b gb (ks.set p .done) τ') ∧ τ'.xs = τ0.xs ∧ τ'.r = τ0.r.set j (told y (-1) false) := by
  obtain ⟨τ, hτ⟩ : ∃ τ, τ = bump τ0 p := ⟨_, rfl⟩
  have tx : τ.xs = τ0.xs := by rw [hτ]; rfl
  have tr : τ.r = τ0.r := by rw [hτ]; rfl
  have hn := popL_nil (j := j) (l := []) (τ := τ) (by rw [tx]; exact hs)
  obtain ⟨τ1, hτ1⟩ : ∃ τ1 : St (List W8), τ1 = { τ with c := τ.c + 1 } := ⟨_, rfl⟩
  rw [← hτ1] at hn
  have t1x : τ1.xs = τ0.xs := by rw [hτ1]; exact tx
  have t1r : τ1.r = τ0.r := by rw [hτ1]; exact tr
  rw [popped_eq (x := y) (by rw [t1r]; exact hr) hrm] at hn
  exact ⟨setw τ1 j (told y (-1) false), one_way (a := a) (b := b) (gb := gb) hk rfl hτ (hn.trans rfl), t1x, by show τ1.r.set j _ = _; rw [t1r]⟩
theorem solo_some {p j : Nat} {ks : List K8} {τ0 : St (List W8)} {y : W8} {i : Int} {s : List Int} (hk : ks[p]? = some (.popL j [])) (hr : τ0.r[j]? = some y) (hs : Stk τ0.xs (i :: s)) (hrm : room y) :
    ∃ τ', Way p 3 (mk a b gb ks τ0) (mk a b gb (ks.set p .done) τ') ∧ Stk τ'.xs s ∧ τ'.xs.length = τ0.xs.length ∧ τ'.r = τ0.r.set j (told y i true) := by
  have hp : p < ks.length := (List.getElem?_eq_some_iff.1 hk).1
  obtain ⟨τ, hτ⟩ : ∃ τ, τ = bump τ0 p := ⟨_, rfl⟩
  have tx : τ.xs = τ0.xs := by rw [hτ]; rfl
  have tr : τ.r = τ0.r := by rw [hτ]; rfl
  have hw1 := one_way (a := a) (b := b) (gb := gb) hk rfl hτ (popL_cons (j := j) (l := []) (τ := τ) (i := i) (t := s) (by rw [tx]; exact hs))
  obtain ⟨τ1, hτ1⟩ : ∃ τ1 : St (List W8), τ1 = bump { τ with c := τ.c + 1 } p := ⟨_, rfl⟩
  have t1x : τ1.xs = τ0.xs := by rw [hτ1]; exact tx
  have t1r : τ1.r = τ0.r := by rw [hτ1]; exact tr
  have hw2 := one_way (a := a) (b := b) (gb := gb) (ks := ks.set p (.popN j [] (τ.xs.getD 0 0))) (τ0 := { τ with c := τ.c + 1 }) (set_at hp) rfl hτ1 (popN_at (j := j) (l := []) (h0 := τ.xs.getD 0 0) (i := i) (t := s) (by rw [t1x]; exact hs) (by rw [tx, t1x]))
  obtain ⟨τ2, hτ2⟩ : ∃ τ2 : St (List W8), τ2 = bump { τ1 with c := τ1.c + 1 } p := ⟨_, rfl⟩
  have t2x : τ2.xs = τ0.xs := by rw [hτ2]; exact t1x
  have t2r : τ2.r = τ0.r := by rw [hτ2]; exact t1r
  have hn := popC_at (j := j) (l := []) (τ := τ2) (i := i) (t := s) (h0 := τ.xs.getD 0 0) (x0 := τ1.xs.getD (i + 1).toNat 0) (by rw [t2x]; exact hs) (by rw [tx, t2x]) (by rw [t1x, t2x])
  obtain ⟨τ3, hτ3⟩ : ∃ τ3 : St (List W8), τ3 = { τ2 with c := τ2.c + 1, xs := τ2.xs.set 0 (turnTo (τ2.xs.getD 0 0) (nx (τ2.xs.getD (i + 1).toNat 0))) } := ⟨_, rfl⟩
  rw [← hτ3] at hn
  have t3x : τ3.xs = τ0.xs.set 0 (turnTo (τ0.xs.getD 0 0) (nx (τ0.xs.getD (i + 1).toNat 0))) := by rw [hτ3, ← t2x]
  have t3r : τ3.r = τ0.r := by rw [hτ3]; exact t2r
  rw [popped_eq (x := y) (by rw [t3r]; exact hr) hrm] at hn
  have hp2 : p < (ks.set p (.popN j [] (τ.xs.getD 0 0))).length := by rw [List.length_set]; exact hp
  have hw3 := one_way (a := a) (b := b) (gb := gb) (ks := (ks.set p (.popN j [] (τ.xs.getD 0 0))).set p (.popC j [] (τ.xs.getD 0 0) (τ1.xs.getD (i + 1).toNat 0))) (τ0 := { τ1 with c := τ1.c + 1 }) (k' := .done) (σ' := setw τ3 j (told y i true)) (set_at hp2) rfl hτ2 (hn.trans rfl)
  simp only [List.set_set] at hw1 hw2 hw3
  exact ⟨setw τ3 j (told y i true), hw1.trans (hw2.trans hw3), by show Stk τ3.xs s; rw [t3x]; exact hs.pop.2, by show τ3.xs.length = _; rw [t3x, List.length_set], by show τ3.r.set j _ = _; rw [t3r]⟩
end Go.Proofs.Ythllplocbciepaa.Kod.Eight
