/- Package knelllaw10: what the laws have between their calls: a wheel in a box, lists that were told. -/
import Derived.Test.YtndpkonihcebeaaSpkA
import Derived.Test.YtndpkonihcebeaaWst3
namespace Go.Proofs.Ytndpkonihcebeaa.Whl
open Go.RowKit Go.Proofs.Ytndpkonihcebeaa Go.Proofs.Ytndpkonihcebeaa.Cell Go.Proofs.Ytndpkonihcebeaa.Seq Go.Proofs.Ytndpkonihcebeaa.Num Go.Proofs.Ytndpkonihcebeaa.SetN Go.Proofs.Ytndpkonihcebeaa.Dig Go.Proofs.Ytndpkonihcebeaa.Bits
set_option linter.unusedVariables false
set_option linter.unusedSimpArgs false
variable {a b bl bs L S B N G : Nat}

/-- The wheel's box. -/
abbrev OV (a bl bs L B : Nat) : Obj := .cells #[.pointer (some ⟨a, 0, none⟩), .int .i64 (L : Int), .int .i64 (B : Int), .int .i64 0, .func (.func 59) #[] #[], .func (.func 60) #[] #[.pointer (some ⟨bl, 0, none⟩), .pointer (some ⟨bs, 0, none⟩)], .func (.func 61) #[] #[.pointer (some ⟨bl, 0, none⟩), .pointer (some ⟨bs, 0, none⟩)]] 71 (0, 0)
/-- What a law has between its calls. -/
structure Rest (a b bl bs L S B N G : Nat) (w0 w : World) (c : Int) (xs : List Int) (chs : Nat → Nat → List Nat) : Prop where
  whe : Whe a b bl bs L S B N w c xs chs
  c0 : 0 ≤ c
  bel : Made w0 w
  row : w.heap[G]? = some (OV a bl bs L B)
  ga : G ≠ a ∧ G ≠ b
  ab : w0.heap.size ≤ a ∧ w0.heap.size ≤ b
theorem Rest.cells {w0 w : World} {c : Int} {xs : List Int} {chs : Nat → Nat → List Nat} (h : Rest a b bl bs L S B N G w0 w c xs chs) :
    w.cell? ⟨G, 0, none⟩ = some (.pointer (some ⟨a, 0, none⟩)) ∧ w.cell? ⟨G, 1, none⟩ = some (.int .i64 (L : Int)) ∧ w.cell? ⟨G, 2, none⟩ = some (.int .i64 (B : Int)) ∧ w.cell? ⟨G, 3, none⟩ = some (.int .i64 0) ∧ w.cell? ⟨G, 4, none⟩ = some (.func (.func 59) #[] #[]) ∧ w.cell? ⟨G, 5, none⟩ = some (.func (.func 60) #[] #[.pointer (some ⟨bl, 0, none⟩), .pointer (some ⟨bs, 0, none⟩)]) ∧ w.cell? ⟨G, 6, none⟩ = some (.func (.func 61) #[] #[.pointer (some ⟨bl, 0, none⟩), .pointer (some ⟨bs, 0, none⟩)]) := by
  refine ⟨?_, ?_, ?_, ?_, ?_, ?_, ?_⟩ <;> (rw [cell_of_row _ _ _ _ _ _ h.row]; rfl)
theorem Rest.lt {w0 w : World} {c : Int} {xs : List Int} {chs : Nat → Nat → List Nat} (h : Rest a b bl bs L S B N G w0 w c xs chs) : a < w.heap.size ∧ b < w.heap.size ∧ G < w.heap.size :=
  ⟨(Array.getElem?_eq_some_iff.1 h.whe.ar.ha).1, (Array.getElem?_eq_some_iff.1 h.whe.ar.hb).1, (Array.getElem?_eq_some_iff.1 h.row).1⟩
theorem Rest.made {w0 w w' : World} {c : Int} {xs : List Int} {chs : Nat → Nat → List Nat} (h : Rest a b bl bs L S B N G w0 w c xs chs) (m : Made w w') : Rest a b bl bs L S B N G w0 w' c xs chs :=
  ⟨h.whe.made m, h.c0, Made.trans h.bel m, (m.block _ h.lt.2.2).trans h.row, h.ga, h.ab⟩
theorem Rest.past {w0 w w' : World} {c c' : Int} {xs xs' : List Int} {chs chs' : Nat → Nat → List Nat} (h : Rest a b bl bs L S B N G w0 w c xs chs) (p : Past a b w w') (hw : Whe a b bl bs L S B N w' c' xs' chs') (hc : c ≤ c') : Rest a b bl bs L S B N G w0 w' c' xs' chs' :=
  ⟨hw, Int.le_trans h.c0 hc, Below.trans h.bel (p.below h.ab.1 h.ab.2 h.bel.size), (p.block _ h.lt.2.2 h.ga.1 h.ga.2).trans h.row, h.ga, h.ab⟩
theorem Rest.insert {t : Nat} {now due : Int} {w0 w : World} {c : Int} {xs : List Int} {chs : Nat → Nat → List Nat} (h : Rest a b bl bs L S B N G w0 w c xs chs) (ht : t < 20) (htN : 1 + L * (1 + S) + t < N) (hf : ∀ lv sl, Val L S lv sl → t ∉ chs lv sl) (hd : tm now < tm due) (hc : c ≤ 1000000) :
    ∃ lv sl, Placed now due L B S lv sl ∧ Val L S lv sl ∧ Calls Try.prog 31 #[.agg (WV a bl bs L B), .int .i64 (t : Int), .int .i64 now, .int .i64 due] w fun e w' => e = .returned (.bool true) ∧ ∃ c' xs', Rest a b bl bs L S B N G w0 w' c' xs' (insCh t lv sl chs) ∧ c' ≤ c + 5 ∧ Past a b w w' := by
  obtain ⟨lv, sl, hp, hv, hC⟩ := insert_law h.whe ht htN hf hd (by omega)
  refine ⟨lv, sl, hp, hv, hC.mono ?_⟩
  rintro e w' ⟨rfl, c', xs', hW, h1, h2, hP⟩
  exact ⟨rfl, c', xs', h.past hP hW h1, h2, hP⟩
/-- A slice that was told: its first cells are these, in a block of its own. -/
def Told (lo : Nat) (w : World) (A : Option Addr) (cs : List Value) : Prop := cs ≠ [] → ∃ g cur ty, A = some ⟨g, 0, none⟩ ∧ lo ≤ g ∧ w.heap[g]? = some (.cells cur ty (0, 0)) ∧ ∀ j, j < cs.length → cur[j]? = cs[j]?
theorem Told.past {lo : Nat} {w w' : World} {A : Option Addr} {cs : List Value} (h : Told lo w A cs) (p : Past a b w w') (ha : a < lo) (hb : b < lo) : Told lo w' A cs := fun hn => by
  obtain ⟨g, cur, ty, rfl, hl, hh, hc⟩ := h hn
  exact ⟨g, cur, ty, rfl, hl, (p.block _ (Array.getElem?_eq_some_iff.1 hh).1 (by omega) (by omega)).trans hh, hc⟩
theorem Told.made {lo : Nat} {w w' : World} {A : Option Addr} {cs : List Value} (h : Told lo w A cs) (p : Made w w') : Told lo w' A cs := fun hn => by
  obtain ⟨g, cur, ty, rfl, hl, hh, hc⟩ := h hn
  exact ⟨g, cur, ty, rfl, hl, (p.block _ (Array.getElem?_eq_some_iff.1 hh).1).trans hh, hc⟩
theorem Told.of_owns {lo sz n : Nat} {w : World} {ty : TypeId} {v : Value} {cs : List Value} (h : w.ownsRow lo ty sz v n cs) (hcs : cs.length = n * sz) (hsz : 1 ≤ sz) : ∃ A cap, v = .slice A n cap ∧ n ≤ cap ∧ cap ≤ maxLen ∧ Told lo w A cs := by
  obtain ⟨_, ⟨g1, g2⟩ | ⟨g, cap, cur, rfl, hg, hcell, hn, hm, hs, ht⟩⟩ := h
  · subst g1
    subst g2
    exact ⟨none, 0, rfl, Nat.le_refl _, by unfold maxLen; omega, fun hn => absurd (List.length_eq_zero_iff.1 (by rw [hcs]; simp)) hn⟩
  · refine ⟨_, cap, rfl, hn, hm, fun _ => ⟨g, cur, _, rfl, hg, hcell, fun j hj => ?_⟩⟩
    have h2 : (cur.toList.take (n * sz))[j]? = cs[j]? := by rw [ht]
    rw [List.getElem?_take_of_lt (by omega)] at h2
    simpa using h2
theorem tc_len : ∀ T : List (Nat × Nat × Nat), (tc T).length = T.length * 3
  | [] => rfl
  | x :: r => by
    have := tc_len r
    unfold tc at this ⊢
    rw [List.flatMap_cons, List.length_append, this]
    simp only [List.length_cons, List.length_nil]; omega
theorem Rest.list {w0 w : World} {c : Int} {xs : List Int} {chs : Nat → Nat → List Nat} (h : Rest a b bl bs L S B N G w0 w c xs chs) (hT : (listOf L S chs).length ≤ N) :
    Calls Try.prog 38 #[.agg (WV a bl bs L B)] w fun e w' => ∃ A cap, e = .returned (.slice A (listOf L S chs).length cap) ∧ (listOf L S chs).length ≤ cap ∧ cap ≤ maxLen ∧ Told w.heap.size w' A (tc (listOf L S chs)) ∧ Made w w' ∧ Rest a b bl bs L S B N G w0 w' c xs chs := by
  refine (list_law h.whe hT).mono ?_
  rintro e w' ⟨v, rfl, hO, hM, hW⟩
  obtain ⟨A, cap, rfl, h1, h2, h3⟩ := Told.of_owns hO (tc_len _) (by omega)
  exact ⟨A, cap, rfl, h1, h2, h3, hM, h.made hM⟩
theorem Rest.pass {fr to' : Int} {w0 w : World} {c : Int} {xs : List Int} {chs : Nat → Nat → List Nat} (h : Rest a b bl bs L S B N G w0 w c xs chs) (hc : c ≤ 1000000) (hG : (passG (crOf fr to' B) S L 0 chs).length ≤ 90) :
    Calls Try.prog 33 #[.agg (WV a bl bs L B), .int .i64 fr, .int .i64 to'] w fun e w' => ∃ A cap, e = .returned (.tuple #[.slice A (passG (crOf fr to' B) S L 0 chs).length cap, .bool true]) ∧ (passG (crOf fr to' B) S L 0 chs).length ≤ cap ∧ cap ≤ maxLen ∧ ∃ c' xs', Rest a b bl bs L S B N G w0 w' c' xs' (passCh (crOf fr to' B) L 0 chs) ∧ c' ≤ c + 600 ∧ Past a b w w' ∧
      Told w.heap.size w' A (vals (passG (crOf fr to' B) S L 0 chs)) := by
  refine (pass_law h.whe (by omega) hG).mono ?_
  rintro e w' ⟨v, rfl, c', xs', hW, h1, h2, hP, hO⟩
  obtain ⟨A, cap, rfl, h3, h4, h5⟩ := Told.of_owns hO (by unfold vals; rw [List.length_map, Nat.mul_one]) (by omega)
  exact ⟨A, cap, rfl, h3, h4, c', xs', h.past hP hW h1, h2, hP, h5⟩
theorem Rest.peek {now : Int} {w0 w : World} {c : Int} {xs : List Int} {chs : Nat → Nat → List Nat} (h : Rest a b bl bs L S B N G w0 w c xs chs) (hc : c ≤ 1000000) (hLB : L * B ≤ 20) :
    Calls Try.prog 35 #[.agg (WV a bl bs L B), .int .i64 now] w fun e w' => e = .returned (.tuple #[.int .i64 (peekR now L B xs L 0).1, .bool true]) ∧ ∃ c', Rest a b bl bs L S B N G w0 w' c' xs chs ∧ c' ≤ c + 9 ∧ Past a b w w' := by
  refine (peek_law h.whe (by omega) hLB).mono ?_
  rintro e w' ⟨rfl, c', hW, h1, h2, hP⟩
  exact ⟨rfl, c', h.past hP hW h1, h2, hP⟩
/-- The box is made behind `fresh`. -/
theorem Rest.start {w0 w1 w : World} {c : Int} {xs : List Int} {chs : Nat → Nat → List Nat} (h : Whe a b bl bs L S B N w1 c xs chs) (hc : 0 ≤ c) (ha : w0.heap.size ≤ a) (hb : w0.heap.size ≤ b) (hm : Made w0 w1) (e : w = w1.alloc (.cells #[.pointer (some ⟨a, 0, none⟩), .int .i64 (L : Int), .int .i64 (B : Int), .int .i64 0, .func (.func 59) #[] #[], .func (.func 60) #[] #[.pointer (some ⟨bl, 0, none⟩), .pointer (some ⟨bs, 0, none⟩)], .func (.func 61) #[] #[.pointer (some ⟨bl, 0, none⟩), .pointer (some ⟨bs, 0, none⟩)]] 71)) : Rest a b bl bs L S B N w1.heap.size w0 w c xs chs := by
  subst e
  have mb : Made w1 (w1.alloc (.cells #[.pointer (some ⟨a, 0, none⟩), .int .i64 (L : Int), .int .i64 (B : Int), .int .i64 0, .func (.func 59) #[] #[], .func (.func 60) #[] #[.pointer (some ⟨bl, 0, none⟩), .pointer (some ⟨bs, 0, none⟩)], .func (.func 61) #[] #[.pointer (some ⟨bl, 0, none⟩), .pointer (some ⟨bs, 0, none⟩)]] 71)) := (Made.refl _).alloc (Nat.le_refl _) _
  have haw := (Array.getElem?_eq_some_iff.1 h.ar.ha).1
  have hbw := (Array.getElem?_eq_some_iff.1 h.ar.hb).1
  exact ⟨h.made mb, hc, Made.trans hm mb, heap_alloc_new _ _, ⟨by omega, by omega⟩, ⟨ha, hb⟩⟩
end Go.Proofs.Ytndpkonihcebeaa.Whl
