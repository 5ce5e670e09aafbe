/- Layer 9's laws: drains, walked to their end. -/
import Derived.Test.YtndpkonihcebeaaCode9a
namespace Go.Proofs.Ytndpkonihcebeaa.Kod.Nine
open Go.RowKit Go.Proofs.Ytndpkonihcebeaa Go.Proofs.Ytndpkonihcebeaa.Cell Go.Proofs.Ytndpkonihcebeaa.Wd
set_option linter.unusedVariables false
set_option linter.unusedSimpArgs false
variable {a b : Nat} {nn : Int} {eb : Option Nat} {fd : FuncId} {cd : Array Value}

/-- A box of layer 9's laws. -/
abbrev bx9 (a b : Nat) (nn : Int) (eb : Option Nat) (fd : FuncId) (cd : Array Value) : Value := bxv (S9 a b nn eb) 0 1 40 fd cd
abbrev BB9 (a b : Nat) (nn : Int) (eb : Option Nat) (fd : FuncId) (cd : Array Value) (w : World) (L : Lay) (k : Nat) : Prop := BB (S9 a b nn eb) w L k 0 1 40 fd cd
/-- What drains give. -/
def Drains9 (a b : Nat) (nn : Int) (eb : Option Nat) (fd : FuncId) (cd : Array Value) (n : Nat) : Prop := ∀ (m q o g : Nat) (w : World) (L : Lay) (σ : St R9) (rs : List Value) (y : K9 × St R9), Inv (S9 a b nn eb) q σ rs L w → L.gh[o]? = some g → drains9 o n σ = some y →
  Calls Try.prog 15 #[bx9 a b nn eb fd cd, .int .i64 (n : Int), .pointer (some ⟨g, 0, none⟩)] w (Gives (S9 a b nn eb) m q y rs L w)
set_option maxRecDepth 100000 in
set_option maxHeartbeats 4000000 in
theorem then_takes {m o n g bo bs bn : Nat} {w : World} {L : Lay} (IH : Drains9 a b nn eb fd cd n) (hn : n < 1000000) (hg : L.gh[o]? = some g) (h1 : Box (S9 a b nn eb) w L bo (.pointer (some ⟨g, 0, none⟩))) (hs : BB9 a b nn eb fd cd w L bs) (h3 : Box (S9 a b nn eb) w L bn (.int .i64 ((n : Int) + 1))) :
    Takes (S9 a b nn eb) m #[] (drained o n) (.func (.func 49) #[] #[.pointer (some ⟨bo, 0, none⟩), .pointer (some ⟨bs, 0, none⟩), .pointer (some ⟨bn, 0, none⟩)]) w L := by
  refine ⟨_, _, rfl, enters_of Try.func49 (by kernel_rfl) rfl, fun q w' L' σ rs z hx hv hz => ?_⟩
  obtain ⟨y, hy, hroom1, hroom, hz2⟩ := drained_some hz
  have hg' := gh_at hx.gh.gh hg
  obtain ⟨sv, R, t, W, hl, hV2, hV, b1, b2, b3, b4⟩ := own_at hv hg' hy
  have bo' := h1.later hx
  have hs' := hs.later hx
  have bn' := h3.later hx
  have co := bo'.cell
  obtain ⟨A', c', hsl⟩ : ∃ A' c', sv (.got o) = .slice A' y.1.length c' := by
    have hr := W.row _ _ _ _ hV2
    rcases hr.2 with ⟨h1, h2⟩ | ⟨g2, cap, cur, h1, _⟩
    · exact ⟨none, 0, by rw [h1, h2]⟩
    · exact ⟨_, _, h1⟩
  have cg0 : w'.cell? ⟨g, 0, none⟩ = some (.slice A' y.1.length c') := by rw [cell_of_row _ _ _ _ _ _ b1, ← hsl]; exact b2
  have cg : w'.cell? ⟨g, 1, none⟩ = some (sv (.ends o)) := by rw [cell_of_row _ _ _ _ _ _ b1]; exact b3
  have zg : w'.frozen? ⟨g, 1, none⟩ = false := frozen_of_row _ _ _ _ _ b1
  have g3 := W.row _ _ _ _ hV
  have HC : Hid (∀ (ob : Obj) (u : World) (g' cap : Nat), u.ownsRow 0 3 1 (.slice (some ⟨g', 0, none⟩) (y.2.length + 1) cap) (y.2.length + 1) (y.2.map (.int .i64) ++ [.int .i64 (y.1.length : Int)]) → ((w'.alloc ob).drew).grownBy u (sv (.ends o)).ownBlock → ((sv (.ends o)).ownBlock = some g' ∨ g' = w'.heap.size + 1) → g' < u.heap.size →
      (u.setCell ⟨g, 1, none⟩ (.slice (some ⟨g', 0, none⟩) (y.2.length + 1) cap)).cell? ⟨bo, 0, none⟩ = some (.pointer (some ⟨g, 0, none⟩)) ∧ BB9 a b nn eb fd cd (u.setCell ⟨g, 1, none⟩ (.slice (some ⟨g', 0, none⟩) (y.2.length + 1) cap)) L' bs ∧ (u.setCell ⟨g, 1, none⟩ (.slice (some ⟨g', 0, none⟩) (y.2.length + 1) cap)).cell? ⟨bn, 0, none⟩ = some (.int .i64 ((n : Int) + 1)) ∧
      Hid (Calls Try.prog 15 #[bx9 a b nn eb fd cd, .int .i64 (n : Int), .pointer (some ⟨g, 0, none⟩)] (u.setCell ⟨g, 1, none⟩ (.slice (some ⟨g', 0, none⟩) (y.2.length + 1) cap)) (Gives (S9 a b nn eb) m q z rs L' w'))) := fun ob u g' cap r1 r2 r3 r4 => by
    have hm : Made w' ((w'.alloc ob).drew) := Made.trans ((Made.refl w').alloc (Nat.le_refl _) _) (Made.drewN _ 1)
    obtain ⟨own2, I2, X2, K2⟩ := put9 (r' := (endS σ o y).r) hv W hl hV (V9_end hg' hy) (by simp [endS]) hm r1 r2 (r3.imp id (fun e => by omega)) r4
    have s2 := hs'.later X2
    refine ⟨(bo'.later X2).cell, ⟨s2.lt, hs'.apart, s2.row⟩, (bn'.later X2).cell, ?_⟩
    exact (IH m q o g _ _ (endS σ o y) rs z I2 hg' hz2).mono fun e w2 hgv => Gives.ext X2 K2 hgv
  have a1 : (sv (.ends o)).ownBlock ≠ some bo := fun e => bo'.apart (Or.inr (Or.inr (Or.inr (Or.inl (W.rown _ _ _ _ _ hV e)))))
  have a3 : (sv (.ends o)).ownBlock ≠ some g := W.ne hV hV
  have l1 := bo'.lt
  have l3 := lt_of_at b1
  have n1 : bo ≠ g := fun e => bo'.apart (Or.inr (Or.inr (Or.inr (Or.inl (e ▸ W.mine _ _ _ _ hV)))))
  obtain ⟨i0, hi0', hz0, hz1, hz2⟩ := info_parts ints_info
  have kk : ∀ (ob : Obj) (k o' : Nat), k < w'.heap.size → (w'.alloc ob).drew.cell? ⟨k, o', none⟩ = w'.cell? ⟨k, o', none⟩ ∧ (w'.alloc ob).drew.frozen? ⟨k, o', none⟩ = w'.frozen? ⟨k, o', none⟩ := fun ob k o' hk => ⟨World.cell?_of_block (heap_alloc_old _ _ hk), World.frozen?_of_block (heap_alloc_old _ _ hk)⟩
  have coA := fun ob => ((kk ob bo 0 l1).1).trans co
  have cg0A := fun ob => ((kk ob g 0 l3).1).trans cg0
  have cgA := fun ob => ((kk ob g 1 l3).1).trans cg
  have zgA := fun ob => ((kk ob g 1 l3).2).trans zg
  clear kk
  clear hx hv hz W hl hV hV2 b1 b2 b3 b4 bo' bn' hs hs' h1 h3 hg hg' hy IH hsl
  generalize sv (.ends o) = s0 at *
  rw [Array.empty_append]
  go_enter Try.func49, Try.ntmps49
  go_wp2_with fail
  go_region_law ((refine step_append_lies _ (by rfl) _ _ _ (by rfl) 0 3 i0 _ 1 8 Try.underlying23 hi0' hz0 hz1 hz2 rfl (by omega) s0 y.2.length (y.2.map (.int .i64)) (by rfl) ((g3.alloc _).drew) ⟨w'.heap.size, 0, none⟩ 1 1 [.int .i64 (y.1.length : Int)] (by rfl) (by rfl) (World.news_of_block (cs := #[.int .i64 (y.1.length : Int)]) (t := 3) (fr := (0, 0)) (heap_alloc_new w' _)) (by simp [Value.oneCell']) (by omega) (by unfold maxLen; omega) (by omega) (by simp) (w'.heap.size + 1) (by simp) ?_; intro g' cap u r1 hgrow hat hlt; have f1 := (hgrow.cell_far ⟨g, 1, none⟩ (by simp; omega) (Ne.symm a3)).trans (cgA _); have f2 := (hgrow.frozen_far ⟨g, 1, none⟩ (by simp; omega) (Ne.symm a3)).trans (zgA _); have f3 := (hgrow.cell_far ⟨bo, 0, none⟩ (by simp; omega) (Ne.symm a1)).trans (coA _); have f0 := (hgrow.cell_far ⟨g, 0, none⟩ (by simp; omega) (Ne.symm a3)).trans (cg0A _)))
  all_goals
    obtain ⟨e0, e1, e2, HC1⟩ := HC.out _ _ _ _ r1 hgrow hat hlt
    obtain ⟨d0, d1, d2, d3, d4, d5, d6⟩ := e1.cells
    clear r1 hgrow hat hlt f0 f1 f2 f3 HC e1 coA cg0A cgA zgA
    unfold bx9 bxv at HC1
    unfold bxr at HC1
    generalize World.setCell _ _ _ = u2 at *
    have hsub : wrap64 ((n : Int) + 1 - 1) = (n : Int) := by rw [show wrap64 ((n : Int) + 1 - 1) = IntKind.i64.wrap ((n : Int) + 1 - 1) from by simp only [wrap64, IntKind.wrap_i64], IntKind.wrap_i64]; omega
    have HS := Lib.hid hsub
    clear hsub
    go_wp2_with fail
    try rw [HS.out]
    refine HC1.out.mono ?_
    rintro e w2 hg
    obtain ⟨v, rfl⟩ := hg.ret
    have HF := Lib.hid hg
    clear hg HC1
    go_wp2_with fail
    go_ret
    exact HF.out
end Go.Proofs.Ytndpkonihcebeaa.Kod.Nine
