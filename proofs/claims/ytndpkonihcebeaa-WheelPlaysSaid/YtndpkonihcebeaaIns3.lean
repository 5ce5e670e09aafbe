/- Package wheel: Insert, and the law's insert. -/
import Derived.Test.YtndpkonihcebeaaIns2
namespace Go.Proofs.Ytndpkonihcebeaa.Whl
open Go.RowKit Go.Proofs.Ytndpkonihcebeaa Go.Proofs.Ytndpkonihcebeaa.Cell Go.Proofs.Ytndpkonihcebeaa.Seq Go.Proofs.Ytndpkonihcebeaa.Num Go.Proofs.Ytndpkonihcebeaa.SetN Go.Proofs.Ytndpkonihcebeaa.Dig
set_option linter.unusedVariables false
set_option linter.unusedSimpArgs false
variable {a b bl bs L S B : Nat} {Q : World → Zone → Int → Prop}

/-- What a ticket's link is. -/
def lk (L S t : Nat) : Nat := 1 + L * (1 + S) + t
/-- The cells behind an Insert. -/
def insX (L S t lv sl : Nat) (xs : List Int) : List Int :=
  if xs.getD (at_ L S lv sl) 0 ≠ 0 ∨ L ≤ lv then (xs.set (lk L S t) (xs.getD (at_ L S lv sl) 0)).set (at_ L S lv sl) ((t + 1 : Nat) : Int)
  else ((xs.set (lk L S t) (xs.getD (at_ L S lv sl) 0)).set (at_ L S lv sl) ((t + 1 : Nat) : Int)).set (1 + lv) (addI ((((xs.set (lk L S t) (xs.getD (at_ L S lv sl) 0)).set (at_ L S lv sl) ((t + 1 : Nat) : Int)).getD (1 + lv) 0).toNat) sl : Nat)
def insC (L S lv sl : Nat) (xs : List Int) (c : Int) : Int := if xs.getD (at_ L S lv sl) 0 ≠ 0 ∨ L ≤ lv then c + 1 + 1 + 1 else c + 1 + 1 + 1 + 1 + 1
def Wide (xs : List Int) : Prop := ∀ x ∈ xs, 0 ≤ x ∧ x < 18446744073709551616
theorem Wide.getD {xs : List Int} (h : Wide xs) (i : Nat) : ∃ n : Nat, xs.getD i 0 = (n : Int) ∧ n < 2 ^ 64 := by
  by_cases hi : i < xs.length
  · have := h xs[i] (List.getElem_mem hi)
    refine ⟨xs[i].toNat, ?_, by omega⟩
    simp [List.getD, hi]; omega
  · exact ⟨0, by simp [List.getD, hi], by decide⟩
theorem Wide.set {xs : List Int} (h : Wide xs) (i : Nat) {v : Int} (hv : 0 ≤ v ∧ v < 18446744073709551616) : Wide (xs.set i v) := fun x hx => by
  rcases List.mem_or_eq_of_mem_set hx with h1 | h1
  · exact h x h1
  · exact h1 ▸ hv
theorem insX_len {t lv sl : Nat} {xs : List Int} : (insX L S t lv sl xs).length = xs.length := by unfold insX; split <;> simp
theorem insX_wide {t lv sl : Nat} {xs : List Int} (h : Wide xs) (ht : t < 1000) : Wide (insX L S t lv sl xs) := by
  obtain ⟨n, hn, hn2⟩ := h.getD (at_ L S lv sl)
  have h1 : Wide (xs.set (lk L S t) (xs.getD (at_ L S lv sl) 0)) := h.set _ (by rw [hn]; omega)
  have h2 : Wide ((xs.set (lk L S t) (xs.getD (at_ L S lv sl) 0)).set (at_ L S lv sl) ((t + 1 : Nat) : Int)) := h1.set _ (by omega)
  unfold insX
  split
  · exact h2
  · obtain ⟨m, hm, hm2⟩ := h2.getD (1 + lv)
    refine h2.set _ ?_
    rw [hm, Int.toNat_natCast]
    have := addI_lt hm2 (sl : Int)
    omega
theorem Insert_w {n t lv sl : Nat} {now due : Int} {f : FuncId} {cap : Array Value} {w : World} {Z : Zone} {c : Int} {xs : List Int} (hA : Arena w a b c xs) (hZ : ZOk a b w Z) (hE : Env w Z bl bs L S) (hp : Placed now due L B S lv sl) (hlen : 1 + L * (1 + S) + t < xs.length) (hw : Wide xs) (hc : c + 5 < 4611686018427387904) (ht : t < 1000)
    (hk : Takes0 a b n f cap w Z (insC L S lv sl xs c) (insX L S t lv sl xs) Q) :
    Calls Try.prog 63 #[.agg (WV a bl bs L B), .int .i64 (t : Int), .int .i64 now, .int .i64 due, .func (.func f) #[] cap] w (EndsIn a b (n + 5) w Z c Q) := by
  have hLS : L * (1 + S) = L + L * S := by rw [Nat.mul_add, Nat.mul_one]
  have hat : at_ L S lv sl < 1 + L * (1 + S) := by
    unfold at_
    split
    · omega
    · have h1 : lv + 1 ≤ L := by have := hp.l; omega
      have h2 : (lv + 1) * S ≤ L * S := Nat.mul_le_mul_right _ h1
      have h3 : (lv + 1) * S = lv * S + S := by rw [Nat.add_mul, Nat.one_mul]
      have := hp.s
      omega
  have hs1 := hp.s
  refine ins_w (m := n + 4) hA hZ hE hp (by omega) (by omega) ht ?_
  intro w1 bw bt bb b1 b3 bk hm q1 q2 q3 q4 q5 q6 w2 Z2 hmid hz2 hA2
  obtain ⟨first, hf, hf2⟩ := hw.getD (at_ L S lv sl)
  rw [hf]
  have g1 := q1.later hmid.ext
  have g2 := q2.later hmid.ext
  have g3 := q3.later hmid.ext
  have g4 := q4.later hmid.ext
  have g5 := q5.later hmid.ext
  have g6 := q6.later hmid.ext
  have hk1 := (hk.later (Btw.of_made hZ hm).mid).later hmid
  have hE2 := (hE.later (Ext.of_made hm)).later hmid.ext
  refine ins2_w (m := n + 3) (at' := at_ L S lv sl) (lv := lv) (ba := bb) (b1 := b1) (b3 := b3) (bk := bk) hA2 hz2 hE2 hlen (by omega) ht g1 g2 ?_
  intro w3 hm3 g7
  have hb3 := Btw.of_made hz2 hm3
  refine ⟨enters_of Try.func99 (by kernel_rfl) rfl, ?_⟩
  intro w4 Z4 hmid4 hz4 hA4
  have x4 := (Ext.of_made (Z := Z2) hm3).trans hmid4.ext
  have k1 := g1.later x4
  have k2 := g2.later x4
  have k3 := g3.later x4
  have k4 := g4.later x4
  have k5 := g5.later x4
  have k6 := g6.later x4
  have k7 := g7.later hmid4.ext
  have hE4 := hE2.later x4
  have hk4 := (hk1.later hb3.mid).later hmid4
  refine ins3_w (m := n + 2) (first := first) (lv := lv) hA4 hz4 (by rw [List.length_set]; omega) (by omega) ht k1 k6 k2 ?_
  refine ⟨enters_of Try.func100 (by kernel_rfl) rfl, ?_⟩
  intro w5 Z5 hmid5 hz5 hA5
  have hk5 := hk4.later hmid5
  have ew : Wide ((xs.set (1 + L * (1 + S) + t) (first : Int)).set (at_ L S lv sl) ((t + 1 : Nat) : Int)) := (hw.set _ (by omega)).set _ (by omega)
  by_cases he : first ≠ 0 ∨ L ≤ lv
  · have hX : insX L S t lv sl xs = (xs.set (1 + L * (1 + S) + t) (first : Int)).set (at_ L S lv sl) ((t + 1 : Nat) : Int) := by
      unfold insX; rw [hf, if_pos (by rcases he with h | h; exact Or.inl (by omega); exact Or.inr h)]; rfl
    have hC : insC L S lv sl xs c = c + 1 + 1 + 1 := by
      unfold insC; rw [hf, if_pos (by rcases he with h | h; exact Or.inl (by omega); exact Or.inr h)]
    rw [hX, hC] at hk5
    exact (ins4_end hA5 hz5 (k7.later hmid5.ext) (k4.later hmid5.ext) (k1.later hmid5.ext) (k3.later hmid5.ext) he hk5).mono fun e w6 h => h.more (by omega)
  · have hf0 : first = 0 := by omega
    have hl : lv < L := by omega
    obtain ⟨set, hset, hset2⟩ := ew.getD (1 + lv)
    have hX : insX L S t lv sl xs = ((xs.set (1 + L * (1 + S) + t) (first : Int)).set (at_ L S lv sl) ((t + 1 : Nat) : Int)).set (1 + lv) (addI set sl : Nat) := by
      unfold insX; rw [hf, if_neg (by rintro (h | h); omega; omega)]
      show ((xs.set (1 + L * (1 + S) + t) (first : Int)).set (at_ L S lv sl) ((t + 1 : Nat) : Int)).set (1 + lv) _ = _
      rw [show lk L S t = 1 + L * (1 + S) + t from rfl, hset, Int.toNat_natCast]
    have hC : insC L S lv sl xs c = c + 1 + 1 + 1 + 1 + 1 := by
      unfold insC; rw [hf, if_neg (by rintro (h | h); omega; omega)]
    rw [hX, hC] at hk5
    subst hf0
    exact ins4_mark hA5 hz5 (hE4.later hmid5.ext) hl hs1 hset2 (by rw [List.length_set, List.length_set]; omega) hset (by omega) (k7.later hmid5.ext) (k4.later hmid5.ext) (k1.later hmid5.ext) (k3.later hmid5.ext) (k5.later hmid5.ext) hk5
end Go.Proofs.Ytndpkonihcebeaa.Whl
