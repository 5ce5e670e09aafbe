/- Layer 9's laws: boxes, owners, tasks, as a law has them between its calls. -/
import Derived.Test.YtndpkonihcebeaaFew9
import Derived.Test.YtndpkonihcebeaaCode9e
import Derived.Test.YtndpkonihcebeaaGrp
namespace Go.Proofs.Ytndpkonihcebeaa.Kod.Nine
open Go.RowKit Go.Proofs.Ytndpkonihcebeaa Go.Proofs.Ytndpkonihcebeaa.Cell Go.Proofs.Ytndpkonihcebeaa.Wd
set_option linter.unusedVariables false
set_option linter.unusedSimpArgs false
variable {a b : Nat} {nn : Int} {eb : Option Nat} {B m n : Nat} {ks : List K9} {τ : St R9} {ts gh : List Nat} {C : List (K9 × Value)} {Z : List (Option Addr × List Value)} {own : Nat → Prop} {w0 wr w' : World}

/-- Tasks, and what all share. -/
abbrev mk (a b : Nat) (nn : Int) (eb : Option Nat) (ks : List K9) (τ : St R9) : Mach (S9 a b nn eb) := ⟨ks, τ⟩
/-- Where puts begin. -/
def kput (d : Bool) : List Int → K9
  | [] => .done
  | t :: l => .putL d t l
theorem puts9_at (d : Bool) (l : List Int) (σ : St R9) : puts9 d l σ = some (kput d l, σ) := by cases l <;> rfl
/-- Where drains begin. -/
def kdr (o : Nat) : Nat → K9
  | 0 => .done
  | n + 1 => .drL o n
theorem drains9_at (o n : Nat) (σ : St R9) : drains9 o n σ = some (kdr o n, σ) := by cases n <;> rfl
/-- The beginning. -/
theorem Grp.start9 {w : World} {xs : List Int} (hA : Arena w a b 0 xs) (hw : ∀ x ∈ xs, 0 ≤ x ∧ x < 18446744073709551616) (hl : xs.length ≤ 1048576) (hn : n < 4611686018427387904) (ha : B ≤ a) (hb : B ≤ b) (hB : Below B w0 w) (hle : B ≤ w.heap.size) : Grp (S9 a b nn none) B m n (mk a b nn none [] ⟨0, xs, [], ⟨[], []⟩⟩) [] [] [] [] (fun _ => False) w0 w := by
  have hi : Inv (S9 a b nn none) n ⟨0, xs, [], ⟨[], []⟩⟩ [] ⟨[], fun _ => False, fun _ => False, []⟩ w := Inv.start (S := S9 a b nn none) hA hw hl hn (fun k hk => hk.elim) ⟨rfl, fun _ => .nilFunc, ⟨fun i g o xs h => ?_, fun i g o xs h => ?_, fun i g o xs h => ?_, fun i g o xs k h => ?_, fun i j x y k hij h => ?_, fun i j g o xs o' ys hij h => ?_⟩⟩
  · refine ⟨⟨[], _, Ready.start (m := m) hi, rfl, rfl, ⟨hle, fun k hk e => ?_⟩, fun c hc => by simp at hc, fun z hz => by simp at hz, fun k => Iff.rfl⟩, hB, fun k hk => hk.elim⟩
    rcases e with e | e | e | e | e
    · have e2 : k = a := e; omega
    · have e2 : k = b := e; omega
    · simp at e
    · exact e
    · exact e
  all_goals
    exfalso
    cases i <;> simp [V9] at h
theorem Lies.box {S : Sys} {w : World} {L : Lay} {g : Nat} {v : Value} (h : Lies S w L (some ⟨g, 0, none⟩) [v]) : Box S w L g v := by
  obtain ⟨a, ha, h1, h2, h3⟩ := h 0 v rfl
  obtain rfl := Option.some.inj ha
  refine ⟨h1, h2, ?_⟩
  have e : (⟨g, 0, none⟩ : Addr).add 0 = ⟨g, 0, none⟩ := by unfold Addr.add; split <;> simp_all
  rwa [e] at h3
theorem putD_next (nn : Int) (d : Bool) (t : Int) (l : List Int) (h : Int) (σ : St R9) : next9 nn (.putD d t l h) σ = some (if decide ((σ.ld (2 + nn + ix h)).1 = 1) = true then K9.putN d t l h else K9.putS d t l h, (σ.ld (2 + nn + ix h)).2) := by
  show (if (σ.ld (2 + nn + ix h)).1 = 1 then some (K9.putN d t l h, (σ.ld (2 + nn + ix h)).2) else some (K9.putS d t l h, (σ.ld (2 + nn + ix h)).2)) = _
  by_cases hc : (σ.ld (2 + nn + ix h)).1 = 1
  · simp only [hc, if_true, decide_true]
  · simp only [hc, if_false, decide_false, Bool.false_eq_true]
/-- A code of Puts is made, of which nothing is told. -/
theorem Grp.puts9 {N c ba bn : Nat} {l : List Int} {A : Option Addr} (h : Grp (S9 a b nn eb) B m n (mk a b nn eb ks τ) ts gh C Z own w0 wr) (hN : Hid (N = l.length)) (hNc : N ≤ c) (hc : c ≤ 9223372036854775807) (n0 : 0 ≤ nn) (n1 : nn ≤ 1000000) (hl : (A, l.map (Value.int .i64)) ∈ Z) (hba : (some (⟨ba, 0, none⟩ : Addr), [Value.pointer (some ⟨a, 0, none⟩)]) ∈ Z) (hbn : (some (⟨bn, 0, none⟩ : Addr), [Value.int .i64 nn]) ∈ Z) (hr : ∀ t ∈ l, 0 ≤ t ∧ t < 4294967295) :
    Calls Try.prog 16 #[.agg (bxf a ba bn), .slice A N c, .nilFunc] wr fun e w1 => ∃ v, e = .returned v ∧ (v = .nilFunc ∨ ∃ f cap, v = .func (.func f) #[] cap) ∧ Hid (Grp (S9 a b nn eb) B m n (mk a b nn eb ks τ) ts gh ((kput false l, v) :: C) Z own w0 w1) ∧ Same own wr w1 := by
  obtain ⟨rs, L, hrd, hts, hgh, hold, hC, hZ, hscr⟩ := h.ex
  have ask : ∀ L, (∀ z ∈ Z, Lies (S9 a b nn eb) wr L z.1 z.2) → Asks9 a b nn eb 41 #[.pointer (some ⟨ba, 0, none⟩), .pointer (some ⟨bn, 0, none⟩)] false wr L := fun L hZ t l => dead9 (S := S9 a b nn eb) (m := 0) n0 n1 (fun _ => rfl) (fun h σ => putD_next nn false t l h σ) (Lies.box (hZ _ hba)) (Lies.box (hZ _ hbn))
  refine (puts_c (a := a) (b := b) (nn := nn) (eb := eb) (d := false) l m n N c A .nilFunc wr L τ rs (kput false l, τ) hrd.inv hN hNc hc (hZ _ hl) (Or.inl ⟨rfl, rfl⟩) (ask L hZ) hr (puts9_at _ _ _)).mono ?_
  rintro e w1 ⟨v, L1, rfl, e1, k1, i1, p1⟩
  have hbel := h.bel
  have hlow := h.low
  have r1 : Ready (S9 a b nn eb) m n (mk a b nn eb ks τ) rs L1 w1 := ⟨i1, hrd.len, fun i k v h1 h2 => (hrd.rep i k v h1 h2).later e1⟩
  obtain ⟨g1, g2⟩ := Grp.ran hrd hts hgh hold hC hZ hscr hbel hlow e1 k1 r1 (Nat.le_refl _)
  refine ⟨v, rfl, p1.func, ⟨⟨rs, L1, r1, k1.ts.trans hts, k1.gh.trans hgh, hold.later e1, fun c hc => ?_, fun z hz => (hZ z hz).later e1, fun q => by rw [k1.scr]; exact hscr q⟩, g1.bel, g1.low⟩, g2⟩
  rcases List.mem_cons.1 hc with rfl | hc
  · exact p1
  · exact (hC c hc).later e1
/-- A code of drains is made. -/
theorem Grp.drains9 {o g k ba bn : Nat} (h : Grp (S9 a b nn eb) B m n (mk a b nn eb ks τ) ts gh C Z own w0 wr) (hg : gh[o]? = some g) (hk : k < 1000000) :
    Calls Try.prog 15 #[.agg (bxf a ba bn), .int .i64 (k : Int), .pointer (some ⟨g, 0, none⟩)] wr fun e w1 => ∃ v, e = .returned v ∧ (v = .nilFunc ∨ ∃ f cap, v = .func (.func f) #[] cap) ∧ Hid (Grp (S9 a b nn eb) B m n (mk a b nn eb ks τ) ts gh ((kdr o k, v) :: C) Z own w0 w1) ∧ Same own wr w1 := by
  have hbel := h.bel
  have hlow := h.low
  obtain ⟨rs, L, hrd, hts, hgh, hold, hC, hZ, hscr⟩ := h.ex
  refine (drains_c (a := a) (b := b) (nn := nn) (eb := eb) (fd := 41) (cd := #[.pointer (some ⟨ba, 0, none⟩), .pointer (some ⟨bn, 0, none⟩)]) k hk m n o g wr L τ rs (kdr o k, τ) hrd.inv (by rw [hgh]; exact hg) (drains9_at _ _ _)).mono ?_
  rintro e w1 ⟨v, L1, rfl, e1, k1, i1, p1⟩
  have r1 : Ready (S9 a b nn eb) m n (mk a b nn eb ks τ) rs L1 w1 := ⟨i1, hrd.len, fun i k v h1 h2 => (hrd.rep i k v h1 h2).later e1⟩
  obtain ⟨g1, g2⟩ := Grp.ran hrd hts hgh hold hC hZ hscr hbel hlow e1 k1 r1 (Nat.le_refl _)
  refine ⟨v, rfl, p1.func, ⟨⟨rs, L1, r1, k1.ts.trans hts, k1.gh.trans hgh, hold.later e1, fun c hc => ?_, fun z hz => (hZ z hz).later e1, fun q => by rw [k1.scr]; exact hscr q⟩, g1.bel, g1.low⟩, g2⟩
  rcases List.mem_cons.1 hc with rfl | hc
  · exact p1
  · exact (hC c hc).later e1
/-- What an owner has. -/
theorem Grp.got9 {o g : Nat} {y : List Int × List Int} (h : Grp (S9 a b nn eb) B m n (mk a b nn eb ks τ) ts gh C Z own w0 wr) (hg : gh[o]? = some g) (hy : τ.r.own[o]? = some y) :
    ∃ A c A' c', wr.cell? ⟨g, 0, none⟩ = some (.slice A y.1.length c) ∧ wr.cell? ⟨g, 1, none⟩ = some (.slice A' y.2.length c') ∧ wr.ownsRow 0 3 1 (.slice A y.1.length c) y.1.length (y.1.map (.int .i64)) ∧ wr.ownsRow 0 3 1 (.slice A' y.2.length c') y.2.length (y.2.map (.int .i64)) := by
  obtain ⟨rs, L, hrd, hts, hgh, hold, hC, hZ, hscr⟩ := h.ex
  obtain ⟨sv, R, t, W, hl, hV, hV2, b1, b2, b3, b4⟩ := own_at hrd.inv (by rw [hgh]; exact hg) hy
  have sh : ∀ {v : Value} {k : Nat} {vs : List Value}, wr.ownsRow 0 3 1 v k vs → ∃ A c, v = .slice A k c := by
    intro v k vs hr
    rcases hr.2 with ⟨h1, h2⟩ | ⟨g2, cap, cur, h1, _⟩
    · exact ⟨none, 0, by rw [h1, h2]⟩
    · exact ⟨_, _, h1⟩
  have r1 := W.row _ _ _ _ hV
  have r2 := W.row _ _ _ _ hV2
  obtain ⟨A, c, e1⟩ := sh r1
  obtain ⟨A', c', e2⟩ := sh r2
  rw [e1] at r1 b2
  rw [e2] at r2 b3
  exact ⟨A, c, A', c', by rw [cell_of_row _ _ _ _ _ _ b1]; exact b2, by rw [cell_of_row _ _ _ _ _ _ b1]; exact b3, r1, r2⟩
end Go.Proofs.Ytndpkonihcebeaa.Kod.Nine
