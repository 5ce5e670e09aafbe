/- Layer 8's laws: workers in memory, in plain words. -/
import Derived.Test.YthllplocbciepaaKtk2
namespace Go.Proofs.Ythllplocbciepaa.Kod.Eight
open Go.RowKit Go.Proofs.Ythllplocbciepaa Go.Proofs.Ythllplocbciepaa.Cell Go.Proofs.Ythllplocbciepaa.Wd
set_option linter.unusedVariables false
set_option linter.unusedSimpArgs false

/-- What a task has in its hands, and what it was told. -/
structure W8 where
  hands : List Int
  got : Option (List Int)
  busy : Bool
  bare : Bool
  wrong : Bool
/-- What code still has to do. -/
inductive K8 where
  | done
  | popL (j : Nat) (l : List Bool)
  | popN (j : Nat) (l : List Bool) (h : Int)
  | popC (j : Nat) (l : List Bool) (h x : Int)
  | pshL (j : Nat) (l : List Bool) (i : Int)
  | pshS (j : Nat) (l : List Bool) (i h : Int)
  | pshC (j : Nat) (l : List Bool) (i h : Int)
/-- A worker is another one. -/
def setw (σ : St (List W8)) (j : Nat) (x : W8) : St (List W8) := { σ with r := σ.r.set j x }
/-- Acts are begun. -/
def enter (j : Nat) : List Bool → St (List W8) → Option (K8 × St (List W8))
  | [], σ => some (.done, σ)
  | true :: l, σ => match σ.r[j]? with
    | none => none
    | some x => some (.popL j l, setw σ j { x with busy := true, bare := false })
  | false :: l, σ => match σ.r[j]? with
    | none => none
    | some x => match x.hands.getLast? with
      | none => enter j l σ
      | some i => some (.pshL j l i, σ)
/-- What is noted behind a Pop. -/
def told (x : W8) (i : Int) (ok : Bool) : W8 :=
  { hands := if ok then x.hands ++ [i] else x.hands, got := x.got.map (· ++ [i]), busy := false, bare := x.bare, wrong := x.wrong || (!ok && !x.bare) || (ok != decide (0 ≤ i)) }
/-- Few enough to be noted. -/
def room (x : W8) : Prop := x.hands.length < 1000000 ∧ ∀ g, x.got = some g → g.length < 1000000
instance (x : W8) : Decidable (room x) := by
  unfold room
  cases x.got with
  | none => exact decidable_of_iff (x.hands.length < 1000000) (by simp)
  | some g => exact decidable_of_iff (x.hands.length < 1000000 ∧ g.length < 1000000) (by simp)
/-- Behind a Pop. -/
def popped (j : Nat) (l : List Bool) (i : Int) (ok : Bool) (σ : St (List W8)) : Option (K8 × St (List W8)) :=
  match σ.r[j]? with
  | none => none
  | some x => if room x then enter j l (setw σ j (told x i ok)) else none
/-- Behind a Push. -/
def pushed (j : Nat) (l : List Bool) (σ : St (List W8)) : Option (K8 × St (List W8)) :=
  match σ.r[j]? with
  | none => none
  | some x => if x.hands = [] then none else enter j l (setw σ j { x with hands := x.hands.dropLast })
/-- The link's cell. -/
def lk1 (i : Int) : Int := 1 + i
def next8 : K8 → St (List W8) → Option (K8 × St (List W8))
  | .done, σ => some (.done, σ)
  | .popL j l, σ => if ix (σ.ld 0).1 < 0 then popped j l (-1) false (σ.ld 0).2 else some (.popN j l (σ.ld 0).1, (σ.ld 0).2)
  | .popN j l h, σ => some (.popC j l h (σ.ld (lk1 (ix h))).1, (σ.ld (lk1 (ix h))).2)
  | .popC j l h x, σ => if (σ.cas 0 h (turnTo h (nx x))).1 then popped j l (ix h) true (σ.cas 0 h (turnTo h (nx x))).2 else some (.popL j l, (σ.cas 0 h (turnTo h (nx x))).2)
  | .pshL j l i, σ => some (.pshS j l i (σ.ld 0).1, (σ.ld 0).2)
  | .pshS j l i h, σ => some (.pshC j l i h, σ.sto (lk1 i) (ix h + 1))
  | .pshC j l i h, σ => if (σ.cas 0 h (turnTo h i)).1 then pushed j l (σ.cas 0 h (turnTo h i)).2 else some (.pshL j l i, (σ.cas 0 h (turnTo h i)).2)

/-- The pointer to what was told. -/
def gotv (x : W8) (gb : Nat) : Value := if x.got.isSome then .pointer (some ⟨gb, 0, none⟩) else .pointer none
/-- A worker lies in block b. -/
structure Wk (own : Nat → Prop) (w : World) (b gb : Nat) (x : W8) (hv sv : Value) : Prop where
  mine : own b
  cells : w.heap[b]? = some (.cells #[hv, gotv x gb, .bool x.busy, .bool x.bare, .bool x.wrong] 88 (0, 0))
  row : w.ownsRow 0 3 1 hv x.hands.length (x.hands.map (.int .i64))
  rown : ∀ k, hv.ownBlock = some k → own k
  rng : ∀ i ∈ x.hands, 0 ≤ i ∧ i < 4294967295
  got : ∀ g, x.got = some g → own gb ∧ w.heap[gb]? = some (.cells #[sv] 32 (0, 0)) ∧ w.ownsRow 0 3 1 sv g.length (g.map (.int .i64)) ∧ ∀ k, sv.ownBlock = some k → own k
/-- Workers lie in the blocks that are known by their places. -/
structure W8s (r : List W8) (own : Nat → Prop) (gh : List Nat) (w : World) (hv sv : Nat → Value) (gb : Nat → Nat) : Prop where
  len : gh.length = r.length
  once : gh.Nodup
  wk : ∀ (j : Nat) (x : W8) (b : Nat), r[j]? = some x → gh[j]? = some b → Wk own w b (gb j) x (hv j) (sv j)
  hh : ∀ (i j k : Nat), i < r.length → j < r.length → i ≠ j → (hv i).ownBlock = some k → (hv j).ownBlock ≠ some k
  hs : ∀ (i j k : Nat), i < r.length → j < r.length → (hv i).ownBlock = some k → (sv j).ownBlock ≠ some k
  ss : ∀ (i j k : Nat), i < r.length → j < r.length → i ≠ j → (sv i).ownBlock = some k → (sv j).ownBlock ≠ some k
  sn : ∀ (j : Nat) (x : W8), r[j]? = some x → x.got = none → (sv j).ownBlock = none
  gg : ∀ (i j : Nat) (x y : W8), i ≠ j → r[i]? = some x → r[j]? = some y → x.got.isSome = true → y.got.isSome = true → gb i ≠ gb j
def J8 (gb : Nat → Nat) (r : List W8) (own : Nat → Prop) (gh : List Nat) (w : World) : Prop := ∃ hv sv, W8s r own gh w hv sv gb
theorem Wk.later {own : Nat → Prop} {w w' : World} {b gb : Nat} {x : W8} {hv sv : Value} (h : Wk own w b gb x hv sv) (hs : ∀ k : Nat, own k → w'.heap[k]? = w.heap[k]?) : Wk own w' b gb x hv sv := by
  have row : ∀ {v : Value} {n : Nat} {xs : List Value}, w.ownsRow 0 3 1 v n xs → (∀ k, v.ownBlock = some k → own k) → w'.ownsRow 0 3 1 v n xs := by
    intro v n xs ho hk
    obtain ⟨h0, h1⟩ := ho
    refine ⟨h0, ?_⟩
    rcases h1 with h1 | ⟨g, cap, cur, rfl, hb, hg, hr⟩
    · exact Or.inl h1
    · exact Or.inr ⟨g, cap, cur, rfl, hb, (hs g (hk g rfl)).trans hg, hr⟩
  refine ⟨h.mine, (hs b h.mine).trans h.cells, row h.row h.rown, h.rown, h.rng, fun g hg => ?_⟩
  obtain ⟨g1, g2, g3, g4⟩ := h.got g hg
  exact ⟨g1, (hs gb g1).trans g2, row g3 g4, g4⟩
/-- The system of layer 8's laws. -/
def S8 (a b : Nat) (gb : Nat → Nat) : Sys where
  R := List W8
  K := K8
  nil := fun k => match k with | .done => true | _ => false
  next := next8
  a := a
  b := b
  J := J8 gb
  stable := fun r own gh w w' hs ⟨hv, sv, h⟩ => ⟨hv, sv, h.len, h.once, fun j x b h1 h2 => (h.wk j x b h1 h2).later hs, h.hh, h.hs, h.ss, h.sn, h.gg⟩
end Go.Proofs.Ythllplocbciepaa.Kod.Eight
