/- Package wheel: a list is taken off; the tickets' firsts are gathered in a slice. -/
import Derived.Test.YtndpkonihcebeaaIns3
import Derived.Test.YtndpkonihcebeaaApp
import Derived.Test.YtndpkonihcebeaaList
namespace Go.Proofs.Ytndpkonihcebeaa.Whl
open Go.RowKit Go.Proofs.Ytndpkonihcebeaa Go.Proofs.Ytndpkonihcebeaa.Cell Go.Proofs.Ytndpkonihcebeaa.Seq Go.Proofs.Ytndpkonihcebeaa.Num Go.Proofs.Ytndpkonihcebeaa.SetN Go.Proofs.Ytndpkonihcebeaa.Dig
set_option linter.unusedVariables false
set_option linter.unusedSimpArgs false
variable {a b B0 bl bs L S B : Nat} {Q : World → Zone → Int → Prop}

/-- A slice of the code's own. -/
structure Own (B0 : Nat) (w : World) (Z : Zone) (s : Value) (l : List Int) : Prop where
  row : w.ownsRow B0 3 1 s l.length (l.map (Value.int .i64))
  m : ∀ g, s.ownBlock = some g → Z.M g ∧ B0 ≤ g
theorem Own.nil (w : World) (Z : Zone) : Own B0 w Z (.slice none 0 0) [] := ⟨⟨rfl, Or.inl ⟨rfl, rfl⟩⟩, fun g h => by cases h⟩
theorem Own.lt {w : World} {Z : Zone} {s : Value} {l : List Int} (h : Own B0 w Z s l) {g : Nat} (hg : s.ownBlock = some g) : g < w.heap.size := by
  obtain ⟨_, h0 | ⟨g', cap, cur, rfl, _, hc, _⟩⟩ := h.row
  · rw [h0.1] at hg; cases hg
  · have : g' = g := by simpa [Value.ownBlock] using hg
    exact this ▸ (Array.getElem?_eq_some_iff.1 hc).1
theorem ownsRow_same {w w' : World} {s : Value} {n : Nat} {xs : List Value} (h : w.ownsRow B0 3 1 s n xs) (hs : ∀ g, s.ownBlock = some g → w'.heap[g]? = w.heap[g]?) : w'.ownsRow B0 3 1 s n xs := by
  obtain ⟨h1, h0 | ⟨g, cap, cur, rfl, h2, hc, h3⟩⟩ := h
  · exact ⟨h1, Or.inl h0⟩
  · exact ⟨h1, Or.inr ⟨g, cap, cur, rfl, h2, (hs g rfl).trans hc, h3⟩⟩
theorem Own.mid {w w' : World} {Z Z' : Zone} {s : Value} {l : List Int} (h : Own B0 w Z s l) (ha : a < B0) (hb : b < B0) (m : Mid a b w Z w' Z') : Own B0 w' Z' s l :=
  ⟨ownsRow_same h.row fun g hg => m.keep g (h.m g hg).1 (by have := (h.m g hg).2; omega) (by have := (h.m g hg).2; omega), fun g hg => ⟨by rw [m.m]; exact (h.m g hg).1, (h.m g hg).2⟩⟩
/-- Later, whatever the code has done: what lay there before the code has not turned, but the arena. -/
structure Late (a b B0 : Nat) (w : World) (Z : Zone) (w' : World) (Z' : Zone) : Prop where
  ext : Ext w Z w' Z'
  keep : ∀ k, k < B0 → Z.M k → k ≠ a → k ≠ b → Z'.M k ∧ w'.heap[k]? = w.heap[k]?
theorem Late.refl (w : World) (Z : Zone) : Late a b B0 w Z w Z := ⟨Ext.refl _ _, fun k _ h _ _ => ⟨h, rfl⟩⟩
theorem Late.trans {u v w : World} {Z Z' Z'' : Zone} (h : Late a b B0 u Z v Z') (k : Late a b B0 v Z' w Z'') : Late a b B0 u Z w Z'' :=
  ⟨h.ext.trans k.ext, fun i hi hm h1 h2 => have g := h.keep i hi hm h1 h2; have g2 := k.keep i hi g.1 h1 h2; ⟨g2.1, g2.2.trans g.2⟩⟩
theorem Late.of_mid {w w' : World} {Z Z' : Zone} (h : Mid a b w Z w' Z') : Late a b B0 w Z w' Z' := ⟨h.ext, fun k _ hm h1 h2 => ⟨by rw [h.m]; exact hm, h.keep k hm h1 h2⟩⟩
theorem Late.of_made {w w' : World} {Z : Zone} (hz : ZOk a b w Z) (h : Made w w') : Late a b B0 w Z w' Z := Late.of_mid (Btw.of_made hz h).mid
/-- A continuation that takes a slice. -/
structure TakesL (a b B0 n : Nat) (f : FuncId) (cap : Array Value) (w : World) (Z : Zone) (c : Int) (xs l : List Int) (Q : World → Zone → Int → Prop) : Prop where
  en : Enters Try.prog f
  run : ∀ w' Z' s, Late a b B0 w Z w' Z' → ZOk a b w' Z' → Arena w' a b c xs → Own B0 w' Z' s l → Calls Try.prog f (#[s] ++ cap) w' (EndsIn a b n w' Z' c Q)
theorem TakesL.later {n : Nat} {f : FuncId} {cap : Array Value} {w w1 : World} {Z Z1 : Zone} {c : Int} {xs l : List Int} (h : TakesL a b B0 n f cap w Z c xs l Q) (m : Late a b B0 w Z w1 Z1) : TakesL a b B0 n f cap w1 Z1 c xs l Q :=
  ⟨h.en, fun w' Z' s h1 h2 h3 h4 => h.run w' Z' s (m.trans h1) h2 h3 h4⟩
abbrev OL (f : FuncId) (cap : Array Value) : Obj := .cells #[.func (.func f) #[] cap] 137 (0, 0)
abbrev OS (s : Value) : Obj := .cells #[s] 23 (0, 0)
/-- The zone when the slice lies in a block that may be new. -/
def plus (Z : Zone) (P : Nat → Prop) : Zone := ⟨fun k => Z.M k ∨ P k, Z.T⟩
/-- What stands behind an append to the slice and a store of it into its box. -/
theorem app_facts {bf : Nat} {w w5 : World} {Z : Zone} {c : Int} {xs l : List Int} {s s' : Value} {x : Int} {o : Obj} (hz : ZOk a b w Z) (ha : a < B0) (hb : b < B0) (hA : Arena w a b c xs) (hO : Own B0 w Z s l) (hbf : Z.M bf) (hbB : B0 ≤ bf) (hne : s.ownBlock ≠ some bf) (h0 : w.heap[bf]? = some (OS s))
    (hown : w5.ownsRow B0 3 1 s' (l.length + 1) (l.map (Value.int .i64) ++ [.int .i64 x])) (hgrow : (w.alloc o).grownBy w5 s.ownBlock) (hsb : s'.ownBlock = s.ownBlock ∨ s'.ownBlock = some (w.alloc o).heap.size) :
    Work w Z (w5.setCell ⟨bf, 0, none⟩ s') (plus Z fun k => s'.ownBlock = some k) ∧ ZOk a b (w5.setCell ⟨bf, 0, none⟩ s') (plus Z fun k => s'.ownBlock = some k) ∧ Arena (w5.setCell ⟨bf, 0, none⟩ s') a b c xs ∧ Own B0 (w5.setCell ⟨bf, 0, none⟩ s') (plus Z fun k => s'.ownBlock = some k) s' (l ++ [x]) ∧ Late a b B0 w Z (w5.setCell ⟨bf, 0, none⟩ s') (plus Z fun k => s'.ownBlock = some k) ∧
      w5.heap[bf]? = some (OS s) ∧ (w5.setCell ⟨bf, 0, none⟩ s').heap[bf]? = some (OS s') := by
  have hbl := hz.ml bf hbf
  have hsz := hgrow.size
  rw [World.size_alloc] at hsz hsb
  have old : ∀ k, k < w.heap.size → s.ownBlock ≠ some k → w5.heap[k]? = w.heap[k]? := fun k hk h => by
    rw [hgrow.block k (by rw [World.size_alloc]; omega) (fun e => h e.symm), heap_alloc_old _ _ hk]
  have o6 : ∀ k, k ≠ bf → (w5.setCell ⟨bf, 0, none⟩ s').heap[k]? = w5.heap[k]? := fun k hk => Cell.heap_setCell_other _ _ _ _ _ hk
  have hs6 : (w5.setCell ⟨bf, 0, none⟩ s').heap.size = w5.heap.size := by simp [World.setCell]
  have hnew : ∀ k, s'.ownBlock = some k → (s.ownBlock = some k) ∨ k = w.heap.size + 1 := fun k hk => by
    rcases hsb with h | h
    · exact Or.inl (h ▸ hk)
    · right; rw [h] at hk; exact (Option.some.inj hk).symm
  have hlt : ∀ k, s'.ownBlock = some k → k < w5.heap.size := fun k hk => by
    obtain ⟨_, h0 | ⟨g', cap, cur, e, _, hc, _⟩⟩ := hown
    · rw [h0.1] at hk; cases hk
    · rw [e] at hk
      have : g' = k := by simpa [Value.ownBlock] using hk
      exact this ▸ (Array.getElem?_eq_some_iff.1 hc).1
  have hge : ∀ k, s'.ownBlock = some k → B0 ≤ k := fun k hk => by
    rcases hnew k hk with h | h
    · exact (hO.m k h).2
    · have := hz.ml bf hbf; omega
  have h5 : w5.heap[bf]? = some (OS s) := (old bf hbl hne).trans h0
  have hex : Ext w Z (w5.setCell ⟨bf, 0, none⟩ s') (plus Z fun k => s'.ownBlock = some k) := by
    refine ⟨hgrow.os, hgrow.tape, hgrow.output, by omega, fun k hk h1 h2 => ⟨?_, h2, ?_⟩⟩
    · rintro (h | h)
      · exact h1 h
      · rcases hnew k h with h | h
        · exact h1 (hO.m k h).1
        · omega
    · rw [o6 k (fun e => h1 (e ▸ hbf)), old k hk (fun e => h1 (hO.m k e).1)]
  have keepB : ∀ k, k < B0 → k < w.heap.size → (w5.setCell ⟨bf, 0, none⟩ s').heap[k]? = w.heap[k]? := fun k hk hkw => by
    rw [o6 k (by omega), old k hkw (fun e => by have := (hO.m k e).2; omega)]
  refine ⟨⟨hex, rfl, fun k hk => ?_⟩, ⟨Or.inl hz.ma, Or.inl hz.mb, ?_, fun k hk => ?_, ?_⟩, ?_, ⟨?_, fun g hg => ⟨Or.inr hg, hge g hg⟩⟩, ⟨hex, fun k hk hm h1 h2 => ⟨Or.inl hm, keepB k hk (hz.ml k hm)⟩⟩, h5, ?_⟩
  · rw [o6 k (fun e => hz.ap bf hbf (e ▸ hk)), old k (hz.tl k hk) (fun e => hz.ap k (hO.m k e).1 hk)]
  · rintro k (h | h)
    · have := hz.ml k h; omega
    · have := hlt k h; omega
  · have := hz.tl k hk; omega
  · rintro k (h | h) ht
    · exact hz.ap k h ht
    · rcases hnew k h with h | h
      · exact hz.ap k (hO.m k h).1 ht
      · have := hz.tl k ht; omega
  · exact ⟨(keepB a ha (hz.ml a hz.ma)).trans hA.ha, (keepB b hb (hz.ml b hz.mb)).trans hA.hb, hA.ne, hA.c0, hA.c1⟩
  · rw [List.length_append, List.map_append]
    refine ownsRow_same hown fun g hg => o6 g ?_
    rcases hnew g hg with h | h
    · exact fun e => hne (e ▸ h)
    · omega
  · rw [setCell_eq_setRow _ _ _ _ _ _ _ h5, heap_setRow_same _ _ _ _ _ _ h5]; rfl
theorem elem_int : Elem Try.prog 23 3 (.int .i64 0) 8 := ⟨by kernel_rfl, by kernel_rfl, rfl⟩
set_option maxRecDepth 100000 in
set_option maxHeartbeats 2000000 in
/-- off's continuation. -/
theorem off1_w {n bf bt first : Nat} {f : FuncId} {cap : Array Value} {w : World} {Z : Zone} {c : Int} {xs l : List Int} {s : Value} (hz : ZOk a b w Z) (ha : a < B0) (hb : b < B0) (hA : Arena w a b c xs) (hO : Own B0 w Z s l) (hbf : Z.M bf) (hbB : B0 ≤ bf) (hne : s.ownBlock ≠ some bf) (h0 : w.heap[bf]? = some (OS s)) (hl : l.length ≤ 100000)
    (h1 : Blk w Z bt (OL f cap)) (hf : first ≤ 1000000) (ht : TakesL a b B0 n f cap w Z c xs (if first = 0 then l else l ++ [(first : Int) - 1]) Q) :
    Calls Try.prog 148 #[.int .u64 (first : Int), .pointer (some ⟨bf, 0, none⟩), .pointer (some ⟨bt, 0, none⟩)] w (EndsIn a b n w Z c Q) := by
  have c1 := h1.cell
  have c0 : w.cell? ⟨bf, 0, none⟩ = some s := by rw [cell_of_row _ _ _ _ _ _ h0]; rfl
  have hen : ∀ (args : Array Value) (w : World), (callFunc f args).run Try.prog w = .ok (.enter f args) w := ht.en
  by_cases h : first = 0
  · subst h
    rw [if_pos rfl] at ht
    have HC : Hid (Calls Try.prog f (#[s] ++ cap) w (fun e w2 => EndsIn a b n w Z c Q e w2 ∧ ∃ v, e = .returned v)) := (ht.run w Z s (Late.refl _ _) hz hA hO).mono fun e w2 h => ⟨h, h.value⟩
    clear hz hA hO hbf hne h0 h1 ht
    go_enter Try.func148, Try.ntmps148
    go_wp2_with fail
    refine HC.out.mono ?_
    rintro e w2 ⟨hg, v, rfl⟩
    go_wp2_with fail
    go_ret
    exact hg
  · rw [if_neg h] at ht
    have hf0 : ¬ (first : Int) = 0 := by omega
    have hf2 : (first : Int) ≤ 1000000 := by omega
    obtain ⟨A1, n1, cc, rfl, hn1⟩ : ∃ A n cc, s = .slice A n cc ∧ n = l.length := by
      obtain ⟨_, g | ⟨g, cap, cur, e, _⟩⟩ := hO.row
      · exact ⟨none, 0, 0, g.1, g.2.symm⟩
      · exact ⟨_, _, _, e, rfl⟩
    subst hn1
    have HAF : Hid (∀ (w5 : World) (s' : Value), w5.ownsRow B0 3 1 s' (l.length + 1) (l.map (Value.int .i64) ++ [.int .i64 ((first : Int) - 1)]) → (w.alloc (.cells #[.int .i64 ((first : Int) - 1)] 3)).grownBy w5 (Value.slice A1 l.length cc).ownBlock → (s'.ownBlock = (Value.slice A1 l.length cc).ownBlock ∨ s'.ownBlock = some (w.alloc (.cells #[.int .i64 ((first : Int) - 1)] 3)).heap.size) →
        w5.cell? ⟨bf, 0, none⟩ = some (.slice A1 l.length cc) ∧ w5.frozen? ⟨bf, 0, none⟩ = false ∧ (w5.setCell ⟨bf, 0, none⟩ s').cell? ⟨bf, 0, none⟩ = some s' ∧ (w5.setCell ⟨bf, 0, none⟩ s').cell? ⟨bt, 0, none⟩ = some (.func (.func f) #[] cap) ∧ Hid (Calls Try.prog f (#[s'] ++ cap) (w5.setCell ⟨bf, 0, none⟩ s') (fun e w2 => EndsIn a b n w Z c Q e w2 ∧ ∃ v, e = .returned v))) := by
      intro w5 s' hown hgrow hsb
      obtain ⟨k1, k2, k3, k4, k5, k6, k7⟩ := app_facts hz ha hb hA hO hbf hbB hne h0 hown hgrow hsb
      refine ⟨by rw [cell_of_row _ _ _ _ _ _ k6]; rfl, frozen_of_row _ _ _ _ _ k6, by rw [cell_of_row _ _ _ _ _ _ k7]; rfl, (h1.later k1.ext).cell, ?_⟩
      exact (ht.run _ _ s' k5 k2 k3 k4).mono fun e w2 h => ⟨h.pre k1, h.value⟩
    have HE := Lib.hid elem_int
    have HR := Lib.hid hO.row
    have HB : Hid (B0 ≤ w.heap.size) := by have := hz.ml bf hbf; show _ ≤ _; omega
    clear hz hA hO hbf hne h0 h1 ht h hf
    go_enter Try.func148, Try.ntmps148
    go_wp2_with (at_builtin; (refine wpList_app _ rfl (.tmp 7) (.tmp 11) 23 rfl B0 3 (.int .i64 0) 8 HE.out (.slice A1 l.length cc) l.length (l.map (Value.int .i64)) (by simp [Act.eval, Act.put]) (World.ownsRow.alloc HR.out _) (some ⟨w.heap.size, 0, none⟩) 1 1 [.int .i64 ((first : Int) - 1)] (by simp [Act.eval, Act.put]) (Reads.row (cs := #[.int .i64 ((first : Int) - 1)]) (heap_alloc_new w _) rfl) (by simp [Value.oneCell']) (by unfold maxLen; omega) (by omega) (by simp only [World.size_alloc]; have := HB.out; omega) ?_; intro A5 c5 w5 hown hgrow hsb; obtain ⟨k1, k2, k3, k4, HC⟩ := HAF.out w5 _ hown hgrow hsb; clear hown hgrow hsb))
    refine HC.out.mono ?_
    rintro e w2 ⟨hg, v, rfl⟩
    go_wp2_with fail
    go_ret
    exact hg
end Go.Proofs.Ytndpkonihcebeaa.Whl
