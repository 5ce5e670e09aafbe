/- Layer 8's laws: a round of one worker: code, New, Finish. -/
import Derived.Test.YthllplocbciepaaList8
import Derived.Test.YthllplocbciepaaBack8
namespace Go.Proofs.Ythllplocbciepaa.Kod.Eight
open Go.RowKit Go.Proofs.Ythllplocbciepaa Go.Proofs.Ythllplocbciepaa.Cell Go.Proofs.Ythllplocbciepaa.Wd
set_option linter.unusedVariables false
set_option linter.unusedSimpArgs false
variable {a b : Nat} {gb : Nat → Nat}

/-- Tasks that lie, in a later world. -/
theorem Ready.next {S : Sys} {m n n' : Nat} {M : Mach S} {σ' : St S.R} {rs : List Value} {L L' : Lay} {w w' : World} (h : Ready S m n M rs L w) (e : Ext S w L w' L') (hi : Inv S n' σ' rs L' w') : Ready S m n' ⟨M.ks, σ'⟩ rs L' w' :=
  ⟨hi, h.len, fun i k v h1 h2 => (h.rep i k v h1 h2).later e⟩
/-- A worker's code. -/
theorem code_r {m n j wb N c : Nat} {ks : List K8} {τ : St (List W8)} {rs : List Value} {L : Lay} {w : World} {x : W8} {l : List Bool} {A : Option Addr} (h : Ready (S8 a b gb) m n (mk a b gb ks τ) rs L w) (hgh : L.gh[j]? = some wb) (hx : τ.r[j]? = some x) (hN : Hid (N = l.length)) (hNc : N ≤ c) (hc : c ≤ 9223372036854775807) (hl : Lies (S8 a b gb) w L A (l.map .bool)) :
    Calls Try.prog 51 #[stk8 a, .slice A N c, .pointer (some ⟨wb, 0, none⟩)] w fun e w' => ∃ v L' k τ', e = .returned v ∧ Ext (S8 a b gb) w L w' L' ∧ Keeps w L w' L' ∧ Ready (S8 a b gb) m n (mk a b gb ks τ') rs L' w' ∧ Rep (S8 a b gb) m k v w' L' ∧ enter j l τ = some (k, τ') := by
  obtain ⟨⟨k, τ'⟩, hy⟩ := enter_some l hx
  refine (code_all (a := a) (b := b) (gb := gb) link_ok l m j wb N c n A w L τ rs (k, τ') h.inv hgh hN hNc hc hl hy).mono ?_
  rintro e w' ⟨v, L', rfl, hx', hk', hi', hr'⟩
  exact ⟨v, L', k, τ', rfl, hx', hk', Ready.next h hx' hi', hr', hy⟩
/-- A worker's task comes to its end. -/
theorem fin_r {m n j g wb tb most : Nat} {ks : List K8} {k : K8} {τ τ' : St (List W8)} {st : List Nat} {rs : List Value} {L : Lay} {w : World} {s : List Int} {x : W8} {l : List Bool} (h : Ready (S8 a b gb) (m + 3 * l.length) (n + 2 * (3 * l.length)) (mk a b gb (ks ++ [k]) { τ' with steps := st }) rs L w)
    (ht : L.ts[ks.length]? = some tb) (he : enter j l τ = some (k, τ')) (hx : τ.r[j]? = some x) (hf : Fit τ.xs s x (g + l.length)) (hm : 3 * l.length ≤ most) :
    Calls Try.prog 45 #[.pointer (some ⟨tb, 0, none⟩), .int .i64 (most : Int)] w fun e w' => e = .returned (.bool true) ∧ ∃ rs' L' τ2, Ext (S8 a b gb) w L w' L' ∧ Keeps w L w' L' ∧ Ready (S8 a b gb) m n (mk a b gb ((ks ++ [k]).set ks.length .done) τ2) rs' L' w' ∧ Fit τ2.xs (l.foldl act8 (s, x)).1 (l.foldl act8 (s, x)).2 g ∧ τ2.r = τ.r.set j (l.foldl act8 (s, x)).2 ∧ τ2.xs.length = τ.xs.length := by
  have hk : (ks ++ [k])[ks.length]? = some k := by simp
  obtain ⟨t, τ2, hc⟩ := solo (a := a) (b := b) (gb := gb) ks.length j g l (ks ++ [k]) { τ with steps := st } s x k { τ' with steps := st } (enter_steps l st he) hk hf hx
  refine (Finish_way (m := m) (n := n) h ht hc.way over_done hc.few most (by have := hc.few; omega)).mono ?_
  rintro e w' ⟨rs', L', rfl, hx', hk', hr'⟩
  exact ⟨by rw [over_done], rs', L', τ2, hx', hk', hr', hc.fit, hc.r, hc.len⟩
/-- A stack's things. -/
theorem List_r {m n g : Nat} {ks : List K8} {τ : St (List W8)} {rs : List Value} {L : Lay} {w : World} {s : List Int} {x : W8} (h : Ready (S8 a b gb) m n (mk a b gb ks τ) rs L w) (hf : Fit τ.xs s x g) :
    Calls Try.prog 54 #[stk8 a] w fun e w' => ∃ A c, e = .returned (.slice A s.length c) ∧ w'.ownsRow w.heap.size 3 1 (.slice A s.length c) s.length (s.map (.int .i64)) ∧ Made w w' := List_c h.inv.ar h.inv.wide hf.stk
end Go.Proofs.Ythllplocbciepaa.Kod.Eight
