/- Layer 8, StackAlone: what holds between two calls of a round. -/
import Derived.Test.YthllplocbciepaaSoon8
import Derived.Test.YthllplocbciepaaRef8
import Derived.Test.YthllplocbciepaaSolo8c
namespace Go.Proofs.Ythllplocbciepaa.Kod.Eight
open Go.RowKit Go.Proofs.Ythllplocbciepaa Go.Proofs.Ythllplocbciepaa.Cell Go.Proofs.Ythllplocbciepaa.Wd
set_option linter.unusedVariables false
set_option linter.unusedSimpArgs false
section
variable {a b : Nat} {gb : Nat → Nat} {B m n : Nat} {ks : List K8} {τ : St (List W8)} {ts gh : List Nat} {C : List (K8 × Value)} {Z : List (Option Addr × List Value)} {own : Nat → Prop} {w0 wr w' : World}

theorem Grp.cells8 {j wb : Nat} {x : W8} (h : Grp (S8 a b gb) B m n (mk a b gb ks τ) ts gh C Z own w0 wr) (hg : gh[j]? = some wb) (hx : τ.r[j]? = some x) : ∃ c0 c1, wr.heap[wb]? = some (.cells #[c0, c1, .bool x.busy, .bool x.bare, .bool x.wrong] 88 (0, 0)) := by
  obtain ⟨rs, L, hr, hts, rfl, hold, hC, hZ, hscr⟩ := h.ex
  obtain ⟨hv, sv, hJ⟩ := hr.inv.rest
  exact ⟨_, _, (hJ.wk j x wb hx hg).cells⟩
theorem Grp.hands8 {j wb : Nat} {x : W8} (h : Grp (S8 a b gb) B m n (mk a b gb ks τ) ts gh C Z own w0 wr) (hg : gh[j]? = some wb) (hx : τ.r[j]? = some x) : ∃ A c, wr.cell? ⟨wb, 0, none⟩ = some (.slice A x.hands.length c) ∧ x.hands.length ≤ c ∧ c ≤ maxLen ∧ Reads wr A x.hands.length (x.hands.map (Value.int .i64)) := by
  obtain ⟨rs, L, hr, hts, rfl, hold, hC, hZ, hscr⟩ := h.ex
  obtain ⟨hv, sv, hJ⟩ := hr.inv.rest
  have hk := hJ.wk j x wb hx hg
  have hc := hk.cells
  have hc0 : wr.cell? ⟨wb, 0, none⟩ = some (hv j) := by rw [cell_of_row _ _ _ _ _ _ hc]; rfl
  have hrow := hk.row
  rcases hrow.2 with ⟨h1, h2⟩ | ⟨g, cap, cur, h1, h2, h3, h4, h5, h6, h7⟩
  · rw [h1] at hc0
    have hnil : x.hands = [] := List.length_eq_zero_iff.1 h2
    rw [hnil]
    exact ⟨none, 0, hc0, Nat.le_refl _, Nat.zero_le _, rfl, fun j u hu => by simp at hu⟩
  · rw [h1] at hc0
    refine ⟨_, cap, hc0, h4, h5, by simp, fun j u hu => ⟨_, rfl, ?_⟩⟩
    have e : (⟨g, 0, none⟩ : Addr).add j = ⟨g, j, none⟩ := by unfold Addr.add; split <;> simp_all
    rw [e, cell_of_row _ _ _ _ _ _ h3]
    rw [← h7, Nat.mul_one, List.getElem?_take] at hu
    split at hu
    · simpa using hu
    · simp at hu
/-- The law writes a worker's flag. -/
theorem Grp.flag8 {j wb o : Nat} {x x' : W8} {c : Bool} (h : Grp (S8 a b gb) B m n (mk a b gb ks τ) ts gh C Z own w0 wr) (hg : gh[j]? = some wb) (hx : τ.r[j]? = some x) (hh : x'.hands = x.hands) (hgot : x'.got = x.got)
    (hc : ∀ c0 c1 : Value, (#[c0, c1, .bool x.busy, .bool x.bare, .bool x.wrong] : Array Value).setIfInBounds o (.bool c) = #[c0, c1, .bool x'.busy, .bool x'.bare, .bool x'.wrong]) :
    Grp (S8 a b gb) B m n (mk a b gb ks (setw τ j x')) ts gh C Z own w0 (wr.setCell ⟨wb, o, none⟩ (.bool c)) ∧ Same own wr (wr.setCell ⟨wb, o, none⟩ (.bool c)) := by
  have hbel := h.bel
  have hlow := h.low
  obtain ⟨rs, L, hr, hts, rfl, hold, hC, hZ, hscr⟩ := h.ex
  obtain ⟨hv, sv, hJ⟩ := hr.inv.rest
  have hk := hJ.wk j x wb hx hg
  obtain ⟨I, X, K, W⟩ := updf (x' := x') hr.inv hJ hx hg (Wrote.set wb o wr (.bool c)) (by
    rw [row_set hk.cells, hc]
    simp only [gotv, hgot]) hh hgot
  exact Grp.ran hr hts rfl hold hC hZ hscr hbel hlow X K (Ready.next hr X I) (Nat.le_refl _)
theorem Grp.finish_way {p t N tb : Nat} {M M' : Mach (S8 a b gb)} (h : Grp (S8 a b gb) B (m + N) (n + 2 * N) M ts gh C Z own w0 wr) (ht : ts[p]? = some tb) (hw : Way p t M M') (ho : M'.over p = true) (hN : t ≤ N) (most : Nat) (hm : t ≤ most) :
    Calls Try.prog 45 #[.pointer (some ⟨tb, 0, none⟩), .int .i64 (most : Int)] wr fun e w' => e = .returned (.bool true) ∧ Hid (Grp (S8 a b gb) B m n M' ts gh C Z own w0 w') ∧ Same own wr w' := by
  have hbel := h.bel
  have hlow := h.low
  obtain ⟨rs, L, hr, rfl, hgh, hold, hC, hZ, hscr⟩ := h.ex
  refine (Finish_way (m := m) (n := n) hr ht hw ho hN most hm).mono ?_
  rintro e w' ⟨rs', L', rfl, hx, hk, hr'⟩
  obtain ⟨g1, g2⟩ := Grp.ran hr rfl hgh hold hC hZ hscr hbel hlow hx hk hr' (by omega)
  exact ⟨by rw [ho], g1, g2⟩
end
theorem Fit.like {xs s : List Int} {x x' : W8} {n : Nat} (h : Fit xs s x n) (hh : x'.hands = x.hands) (hg : x'.got = x.got) : Fit xs s x' n :=
  ⟨h.stk, by rw [hh]; exact h.all, by rw [hh]; exact h.rng, by rw [hh]; exact h.few, by rw [hg]; exact h.got⟩
theorem Fit.any {xs s : List Int} {x x' : W8} {n n' : Nat} (h : Fit xs s x n) (hg : x'.got = none) (hh : x'.hands = x.hands) : Fit xs s x' n' :=
  ⟨h.stk, by rw [hh]; exact h.all, by rw [hh]; exact h.rng, by rw [hh]; exact h.few, fun g hg' => by rw [hg] at hg'; simp at hg'⟩
/-- A slice that never turns, from some place on. -/
theorem lies_drop {S : Sys} {w : World} {L : Lay} {A : Option Addr} {vs : List Value} (h : Lies S w L A vs) (k : Nat) : Lies S w L (A.map (·.add k)) (vs.drop k) := fun i v hi => by
  rw [List.getElem?_drop] at hi
  obtain ⟨d, rfl, h1, h2, h3⟩ := h (k + i) v hi
  have hb : (d.add k).block = d.block := by unfold Addr.add; split <;> rfl
  refine ⟨d.add k, rfl, by rw [hb]; exact h1, by rw [hb]; exact h2, ?_⟩
  rw [Addr.add_add]
  exact h3
theorem Grp.tail {S : Sys} {B m n : Nat} {M : Mach S} {ts gh : List Nat} {C : List (S.K × Value)} {Z : List (Option Addr × List Value)} {own : Nat → Prop} {w0 wr : World} (h : Grp S B m n M ts gh C Z own w0 wr) {A : Option Addr} {v : Value} {vs : List Value} (hz : (A, v :: vs) ∈ Z) {A' : Option Addr} (hA : vs = [] ∨ A' = A.map (·.add 1)) : Grp S B m n M ts gh C ((A', vs) :: Z) own w0 wr := by
  obtain ⟨rs, L, hr, hts, hgh, hold, hC, hZ, hscr⟩ := h.ex
  refine ⟨⟨rs, L, hr, hts, hgh, hold, hC, fun z hz' => ?_, hscr⟩, h.bel, h.low⟩
  rcases List.mem_cons.1 hz' with rfl | hz'
  · rcases hA with rfl | rfl
    · exact Lies.nil
    · exact lies_drop (hZ _ hz) 1
  · exact hZ z hz'
theorem reads_of {S : Sys} {B m n : Nat} {M : Mach S} {ts gh : List Nat} {C : List (S.K × Value)} {Z : List (Option Addr × List Value)} {own : Nat → Prop} {w0 wr : World} (h : Grp S B m n M ts gh C Z own w0 wr) {A : Option Addr} {vs : List Value} (hz : (A, vs) ∈ Z) : Reads wr A vs.length vs := ⟨rfl, fun j u hu => h.lie hz j u hu⟩
theorem reads_own {w : World} {B n : Nat} {E : TypeId} {A : Option Addr} {c : Nat} {vs : List Value} (h : w.ownsRow B E 1 (.slice A n c) n vs) : Reads w A n vs := by
  refine ⟨by have := h.1; omega, fun j u hu => ?_⟩
  rcases h.2 with ⟨h1, h2⟩ | ⟨g, cap, cur, h1, h2, h3, h4, h5, h6, h7⟩
  · have := h.1
    have : vs = [] := List.length_eq_zero_iff.1 (by omega)
    rw [this] at hu
    simp at hu
  · simp only [Value.slice.injEq] at h1
    obtain ⟨rfl, _, rfl⟩ := h1
    have e : (⟨g, 0, none⟩ : Addr).add j = ⟨g, j, none⟩ := by unfold Addr.add; split <;> simp_all
    refine ⟨_, rfl, ?_⟩
    rw [e, cell_of_row _ _ _ _ _ _ h3]
    rw [← h7, Nat.mul_one, List.getElem?_take] at hu
    split at hu
    · simpa using hu
    · simp at hu
/-- What a Push is begun as. -/
def pshK (x : W8) : K8 := match x.hands.getLast? with
  | none => .done
  | some i => .pshL 0 [] i
theorem enter_false {σ : St (List W8)} {x : W8} (hx : σ.r[0]? = some x) : enter 0 [false] σ = some (pshK x, σ) := by
  unfold enter pshK
  rw [hx]
  simp only
  cases x.hands.getLast? <;> rfl
/-- A model, hands: what the law has. -/
structure Has (w : World) (B : Nat) (Z : List (Option Addr × List Value)) (mo H : List Int) (mv hv : Value) : Prop where
  model : ∃ A c, mv = .slice A mo.length c ∧ mo.length ≤ c ∧ c ≤ maxLen ∧ (A, mo.map (Value.int .i64)) ∈ Z
  hands : w.ownsRow B 3 1 hv H.length (H.map (Value.int .i64))
/-- Between two rounds. -/
structure Alo (a b B g r : Nat) (s : List Int) (x : W8) (mv hv : Value) (w0 wr : World) : Prop where
  ex : ∃ ks τ ts Z, Grp (S8 a b fun _ => 0) B (200 - 3 * r) (400 - 6 * r) (mk a b (fun _ => 0) ks τ) ts [g + 1] [] Z (fun q => hv.ownBlock = some q) w0 wr ∧ Fit τ.xs s x 0 ∧ τ.r = [x] ∧ x.wrong = false ∧ x.got = none ∧ (some ⟨g, 0, none⟩, stkcells a) ∈ Z ∧ Has wr B Z s x.hands mv hv ∧ (s ++ x.hands).length ≤ 100
/-- Within a round, behind New. -/
structure Aft (a b B g r : Nat) (p : Bool) (s : List Int) (x : W8) (tb : Nat) (mo H : List Int) (mv hv : Value) (w0 wr : World) : Prop where
  ex : ∃ ks k τ y ts Z, Grp (S8 a b fun _ => 0) B (200 - 3 * r) (400 - 6 * r) (mk a b (fun _ => 0) (ks ++ [k]) τ) ts [g + 1] [] Z (fun q => hv.ownBlock = some q) w0 wr ∧ ts[ks.length]? = some tb ∧ Fit τ.xs s y 1 ∧ τ.r = [y] ∧ y.hands = x.hands ∧ y.wrong = false ∧ y.got = none ∧ (some ⟨g, 0, none⟩, stkcells a) ∈ Z ∧ Has wr B Z mo H mv hv ∧
    (p = true → k = .popL 0 [] ∧ y.bare = decide (s = [])) ∧ (p = false → enter 0 [false] τ = some (k, τ)) ∧ (s ++ x.hands).length ≤ 100
theorem Alo.stk {a b B g r : Nat} {s : List Int} {x : W8} {mv hv : Value} {w0 wr : World} (h : Alo a b B g r s x mv hv w0 wr) : wr.cell? ⟨g, 0, none⟩ = some (.pointer (some ⟨a, 0, none⟩)) ∧ wr.cell? ⟨g, 1, none⟩ = some (.int .i64 0) ∧ wr.cell? ⟨g, 2, none⟩ = some (.func (.func 76) #[] #[]) := by
  obtain ⟨ks, τ, ts, Z, hG, hf, hr, hw, hgt, hz, hh, hfw⟩ := h.ex
  exact ⟨hG.lie0 hz (i := 0) rfl, hG.lie0 hz (i := 1) rfl, hG.lie0 hz (i := 2) rfl⟩
theorem Alo.bel {a b B g r : Nat} {s : List Int} {x : W8} {mv hv : Value} {w0 wr : World} (h : Alo a b B g r s x mv hv w0 wr) : Below B w0 wr := by
  obtain ⟨ks, τ, ts, Z, hG, hf, hr, hw, hgt, hz, hh, hfw⟩ := h.ex
  exact hG.bel
/-- A round begins. -/
theorem Alo.go {a b B g r : Nat} {s : List Int} {x : W8} {mv hv : Value} {w0 wr : World} (p : Bool) (h : Alo a b B g r s x mv hv w0 wr) :
    (∃ c0 c1, wr.heap[g + 1]? = some (.cells #[c0, c1, .bool x.busy, .bool x.bare, .bool x.wrong] 88 (0, 0))) ∧
      Hid (Calls Try.prog 51 #[stk8 a, .slice (some ⟨wr.heap.size, 0, none⟩) 1 1, .pointer (some ⟨g + 1, 0, none⟩)] ((wr.setCell ⟨g + 1, 3, none⟩ (.bool true)).alloc (.cells #[.bool p] 4)) fun e w2 => ∃ v, e = .returned v ∧ (v = .nilFunc ∨ ∃ f cap, v = .func (.func f) #[] cap) ∧
        Hid (Calls Try.prog 37 #[v] w2 fun e w3 => ∃ tb, e = .returned (.pointer (some ⟨tb, 0, none⟩)) ∧ (∃ c0 c1 b0 b1, w3.heap[g + 1]? = some (.cells #[c0, c1, .bool b0, .bool b1, .bool false] 88 (0, 0))) ∧
          Hid (Aft a b B g r p s x tb s x.hands mv hv w0 (w3.setCell ⟨g + 1, 3, none⟩ (.bool (decide (s = []))))))) := by
  obtain ⟨ks, τ, ts, Z, hG, hf, hr, hw, hgt, hz, hh, hfw⟩ := h.ex
  have hx : τ.r[0]? = some x := by rw [hr]; rfl
  obtain ⟨c0, c1, hc⟩ := Grp.cells8 hG (j := 0) rfl hx
  refine ⟨⟨c0, c1, hc⟩, ?_⟩
  show Calls _ _ _ _ _
  obtain ⟨hG1, hs1⟩ := Grp.flag8 (j := 0) (wb := g + 1) (o := 3) (x' := { x with bare := true }) (c := true) hG rfl hx rfl rfl (fun c0 c1 => rfl)
  have hsz : (wr.setCell ⟨g + 1, 3, none⟩ (.bool true)).heap.size = wr.heap.size := by simp [World.setCell]
  have hma : Made (wr.setCell ⟨g + 1, 3, none⟩ (.bool true)) ((wr.setCell ⟨g + 1, 3, none⟩ (.bool true)).alloc (.cells #[.bool p] 4)) := (Made.refl _).alloc (Nat.le_refl _) _
  have hs2 := hs1.trans (hG1.same_made hma)
  obtain ⟨A3, c3, e3, h1, h2, h3, hG2⟩ := hG1.note hma (World.ownsRow_lit (e := 4) (base := (wr.setCell ⟨g + 1, 3, none⟩ (.bool true)).heap.size) (size := 1) (wr.setCell ⟨g + 1, 3, none⟩ (.bool true)) #[.bool p] 1 (Nat.le_refl _) (by unfold maxLen; omega) (by simp))
  obtain ⟨rfl, -, rfl⟩ : some ⟨(wr.setCell ⟨g + 1, 3, none⟩ (.bool true)).heap.size, 0, none⟩ = A3 ∧ 1 = 1 ∧ 1 = c3 := by simpa using e3
  rw [hsz] at hG2
  have hx1 : (setw τ 0 { x with bare := true }).r[0]? = some { x with bare := true } := by simp [setw, hr]
  refine (Grp.code8 hG2 (j := 0) (l := [p]) rfl hx1 (Lib.hid rfl) (Nat.le_refl _) (by show (1 : Nat) ≤ _; omega) List.mem_cons_self).mono ?_
  rintro e w2 ⟨v, k, τ1, rfl, hv, he, HG3, hs3⟩
  refine ⟨v, rfl, hv, ?_⟩
  show Calls _ _ _ _ _
  refine (HG3.out.new_c List.mem_cons_self).mono ?_
  rintro e w3 ⟨rfl, hm3, hsz3, HG4⟩
  have hs4 := (hs2.trans hs3).trans (HG3.out.same_made hm3)
  obtain ⟨y, hy, y1, y2, y3, hye⟩ : ∃ y, τ1.r = [y] ∧ y.hands = x.hands ∧ y.wrong = false ∧ y.got = none ∧ τ1.xs = τ.xs := by
    obtain ⟨k', x', q1, q2, q3, q4, q5, q6, q7⟩ := enter_any (j := 0) (x := { x with bare := true }) [p] hx1 ⟨fun i hi => by have := hf.rng i hi; have := hf.stk.few; omega, hgt, by simp at hfw; simp; omega⟩
    have q8 := Option.some.inj (q1.symm.trans he)
    simp only [Prod.mk.injEq] at q8
    obtain ⟨rfl, rfl⟩ := q8
    exact ⟨x', by simp [setw, hr], q4, q5.trans hw, q3.got, rfl⟩
  have hy0 : { τ1 with steps := τ1.steps ++ [0] }.r[0]? = some y := by show τ1.r[0]? = _; rw [hy]; rfl
  obtain ⟨d0, d1, hd⟩ := Grp.cells8 (τ := { τ1 with steps := τ1.steps ++ [0] }) HG4.out (j := 0) rfl hy0
  rw [y2] at hd
  refine ⟨_, rfl, ⟨d0, d1, _, _, hd⟩, ?_⟩
  show Aft _ _ _ _ _ _ _ _ _ _ _ _ _ _ _
  obtain ⟨hG5, hs5⟩ := Grp.flag8 (τ := { τ1 with steps := τ1.steps ++ [0] }) (j := 0) (wb := g + 1) (o := 3) (x' := { y with bare := decide (s = []) }) (c := decide (s = [])) HG4.out rfl hy0 rfl rfl (fun c0 c1 => rfl)
  have hlens := hG.lens
  have hmem : ∀ z ∈ Z, z ∈ (some ⟨wr.heap.size, 0, none⟩, [p].map Value.bool) :: Z := fun z hz => List.mem_cons_of_mem _ hz
  refine ⟨⟨ks, k, _, { y with bare := decide (s = []) }, _, Z, hG5.drop (fun c hc => by simp at hc) hmem, by
      have hl : ts.length = ks.length := hlens.1
      rw [← hl]
      simp, ?_, ?_, y1, y2, y3, hz, ⟨hh.model, (hs4.trans hs5).row (fun k hk => hk) hh.hands⟩, fun hp => ?_, fun hp => ?_, hfw⟩⟩
  · show Fit τ1.xs s { y with bare := decide (s = []) } 1
    rw [hye]
    exact hf.any y3 y1
  · show (τ1.r.set 0 _) = _
    rw [hy]
    rfl
  · subst hp
    refine ⟨?_, rfl⟩
    have he2 : (K8.popL 0 [], setw (setw τ 0 { x with bare := true }) 0 { ({ x with bare := true } : W8) with busy := true, bare := false }) = (k, τ1) := by
      unfold enter at he
      rw [hx1] at he
      exact Option.some.inj he
    simp only [Prod.mk.injEq] at he2
    exact he2.1.symm
  · subst hp
    have he2 := (enter_false hx1).symm.trans he
    have he3 := Option.some.inj he2
    simp only [Prod.mk.injEq] at he3
    have hk : pshK { y with bare := decide (s = []) } = k := by
      rw [← he3.1]
      unfold pshK
      simp only [y1]
    rw [← hk]
    refine enter_false ?_
    show (τ1.r.set 0 _)[0]? = _
    rw [hy]
    rfl
/-- The stack and the worker behind a round. -/
def aftw (p : Bool) (s : List Int) (y : W8) : List Int × W8 := if p then (match s with
  | [] => ([], told y (-1) false)
  | i :: t => (t, told y i true)) else act8 (s, y) false
/-- What a round comes to, of the stack and of what is in hand. -/
def mo (p : Bool) (s H : List Int) : List Int × List Int := if p then (match s with
  | [] => ([], H)
  | i :: t => (t, H ++ [i])) else (match H.getLast? with
  | none => (s, H)
  | some i => (i :: s, H.dropLast))
theorem mo_len (p : Bool) (s H : List Int) : (mo p s H).1.length + (mo p s H).2.length ≤ s.length + H.length := by
  cases p with
  | true =>
    cases s with
    | nil => simp [mo]
    | cons i t => simp [mo]; omega
  | false =>
    cases hl : H.getLast? with
    | none => simp [mo, hl]
    | some i =>
      have hne : H ≠ [] := fun e => by rw [e] at hl; simp at hl
      have := List.length_pos_iff.2 hne
      simp [mo, hl]
      omega
/-- Where a round comes to. -/
def Comes (a b : Nat) (p : Bool) (s : List Int) (H : List Int) (ks : List K8) (k : K8) (τ : St (List W8)) : Prop :=
  ∃ t τ2 s' x', Way (a := a) (b := b) (gb := fun _ => 0) ks.length t (Eight.mk a b (fun _ => 0) (ks ++ [k]) τ) (Eight.mk a b (fun _ => 0) ((ks ++ [k]).set ks.length .done) τ2) ∧ t ≤ 3 ∧ Fit τ2.xs s' x' 0 ∧ τ2.r = [x'] ∧ (s', x'.hands) = mo p s H ∧ x'.wrong = false ∧ x'.got = none
theorem comes_push {a b : Nat} {s : List Int} {ks : List K8} {k : K8} {τ : St (List W8)} {y : W8} (hf : Fit τ.xs s y 1) (hr : τ.r = [y]) (hw : y.wrong = false) (hg : y.got = none) (he : enter 0 [false] τ = some (k, τ)) : Comes a b false s y.hands ks k τ := by
  have hk : (ks ++ [k])[ks.length]? = some k := by simp
  have hry : τ.r[0]? = some y := by rw [hr]; rfl
  obtain ⟨t, τ2, hc⟩ := solo (a := a) (b := b) (gb := fun _ => 0) ks.length 0 0 [false] (ks ++ [k]) τ s y k τ he hk hf hry
  have hr2 := hc.r
  rw [hr] at hr2
  refine ⟨t, τ2, _, _, hc.way, hc.few, hc.fit, hr2, ?_, ?_, ?_⟩
  · show ((act8 (s, y) false).1, (act8 (s, y) false).2.hands) = _
    unfold act8 mo
    simp only
    cases y.hands.getLast? <;> rfl
  · show (act8 (s, y) false).2.wrong = false
    unfold act8
    simp only
    cases y.hands.getLast? <;> exact hw
  · show (act8 (s, y) false).2.got = none
    unfold act8
    simp only
    cases y.hands.getLast? <;> exact hg
theorem comes_none {a b : Nat} {ks : List K8} {τ : St (List W8)} {y : W8} (hf : Fit τ.xs [] y 1) (hr : τ.r = [y]) (hw : y.wrong = false) (hg : y.got = none) (hb : y.bare = true) : Comes a b true [] y.hands ks (.popL 0 []) τ := by
  have hk : (ks ++ [K8.popL 0 []])[ks.length]? = some (.popL 0 []) := by simp
  have hry : τ.r[0]? = some y := by rw [hr]; rfl
  have hroom : room y := ⟨by have := hf.few; simp at this; omega, fun g hg' => by rw [hg] at hg'; simp at hg'⟩
  obtain ⟨τ2, hway, hxs, hr2⟩ := solo_none (a := a) (b := b) (gb := fun _ => 0) hk hry hf.stk hroom
  rw [hr] at hr2
  refine ⟨1, τ2, [], told y (-1) false, hway, by omega, ?_, hr2, rfl, by simp [told, hw, hb], by simp [told, hg]⟩
  rw [hxs]
  exact hf.any (by simp [told, hg]) rfl
theorem comes_some {a b : Nat} {i : Int} {t : List Int} {ks : List K8} {τ : St (List W8)} {y : W8} (hf : Fit τ.xs (i :: t) y 1) (hr : τ.r = [y]) (hw : y.wrong = false) (hg : y.got = none) : Comes a b true (i :: t) y.hands ks (.popL 0 []) τ := by
  have hk : (ks ++ [K8.popL 0 []])[ks.length]? = some (.popL 0 []) := by simp
  have hry : τ.r[0]? = some y := by rw [hr]; rfl
  have hroom : room y := ⟨by have := hf.few; simp at this; omega, fun g hg' => by rw [hg] at hg'; simp at hg'⟩
  obtain ⟨τ2, hway, hst, hlen, hr2⟩ := solo_some (a := a) (b := b) (gb := fun _ => 0) hk hry hf.stk hroom
  rw [hr] at hr2
  have hm := hf.stk.mem i List.mem_cons_self
  have hi0 : decide (0 ≤ i) = true := by simpa using hm.1
  refine ⟨3, τ2, t, told y i true, hway, by omega, ⟨hst, ?_, fun j hj => ?_, ?_, fun g hg' => by simp [told, hg] at hg'⟩, hr2, rfl, by simp [told, hw, hm.1], by simp [told, hg]⟩
  · have h := hf.all
    show (t ++ (y.hands ++ [i])).Nodup
    have hp : (i :: t ++ y.hands).Perm (t ++ (y.hands ++ [i])) := by
      rw [← List.append_assoc]
      exact (List.perm_append_singleton i (t ++ y.hands)).symm
    exact hp.nodup_iff.1 h
  · have hj' : j ∈ y.hands ++ [i] := hj
    rw [hlen]
    rcases List.mem_append.1 hj' with hj | hj
    · exact hf.rng j hj
    · simp at hj
      subst hj
      exact hm
  · have := hf.few
    show (t ++ (y.hands ++ [i])).length ≤ 1000
    simp at this ⊢
    omega
/-- A round ends. -/
theorem Aft.fin {a b B g r tb : Nat} {p : Bool} {s H2 mo2 : List Int} {x : W8} {mv hv : Value} {w0 wr : World} (hr60 : r < 60) (h : Aft a b B g r p s x tb mo2 H2 mv hv w0 wr) (hmo : mo p s x.hands = (mo2, H2)) :
    Calls Try.prog 45 #[.pointer (some ⟨tb, 0, none⟩), .int .i64 6] wr fun e w2 => e = .returned (.bool true) ∧ ∃ x', Hid (Alo a b B g (r + 1) mo2 x' mv hv w0 w2) ∧ x'.hands = H2 ∧ w2.cell? ⟨g + 1, 4, none⟩ = some (.bool false) := by
  obtain ⟨ks, k, τ, y, ts, Z, hG, ht, hf, hr, y1, y2, y3, hz, hh, hpt, hpf, hfw⟩ := h.ex
  have hG1 : Grp (S8 a b fun _ => 0) B ((200 - 3 * (r + 1)) + 3) ((400 - 6 * (r + 1)) + 2 * 3) (Eight.mk a b (fun _ => 0) (ks ++ [k]) τ) ts [g + 1] [] Z (fun q => hv.ownBlock = some q) w0 wr := hG.lower (by omega) (by omega)
  have key : Comes a b p s y.hands ks k τ := by
    cases p with
    | false => exact comes_push hf hr y2 y3 (hpf rfl)
    | true =>
      obtain ⟨rfl, hb⟩ := hpt rfl
      cases s with
      | nil => exact comes_none hf hr y2 y3 (by simpa using hb)
      | cons i t => exact comes_some hf hr y2 y3
  rw [y1] at key
  obtain ⟨t, τ2, s', x', hway, ht3, hf2, hr2, he, hw2, hg2⟩ := key
  have hml := mo_len p s x.hands
  rw [hmo] at he hml
  simp only [Prod.mk.injEq] at he
  obtain ⟨rfl, rfl⟩ := he
  refine (Grp.finish_way (m := 200 - 3 * (r + 1)) (n := 400 - 6 * (r + 1)) (N := 3) hG1 ht hway over_done ht3 6 (by omega)).mono ?_
  rintro e w2 ⟨rfl, HG2, hs⟩
  have hx' : τ2.r[0]? = some x' := by rw [hr2]; rfl
  obtain ⟨c0, c1, hc⟩ := Grp.cells8 HG2.out (j := 0) rfl hx'
  refine ⟨rfl, x', ⟨_, τ2, ts, Z, HG2.out, hf2, hr2, hw2, hg2, hz, ⟨hh.model, hs.row (fun k hk => hk) hh.hands⟩, ?_⟩, rfl, ?_⟩
  · simp at hml hfw ⊢
    omega
  · rw [cell_of_row _ _ _ _ _ _ hc, hw2]
    rfl
end Go.Proofs.Ythllplocbciepaa.Kod.Eight
