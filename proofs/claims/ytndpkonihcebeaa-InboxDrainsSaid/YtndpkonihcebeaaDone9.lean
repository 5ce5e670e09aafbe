/- InboxDrains: what is told of a Put that has ended (InboxDrains$1), walked; codes that tell it. -/
import Derived.Test.YtndpkonihcebeaaTask9
import Derived.Deep.AppendLies
namespace Go.Proofs.Ytndpkonihcebeaa.Kod.Nine
open Go.RowKit Go.Proofs.Ytndpkonihcebeaa Go.Proofs.Ytndpkonihcebeaa.Cell Go.Proofs.Ytndpkonihcebeaa.Wd
set_option linter.unusedVariables false
set_option linter.unusedSimpArgs false
variable {a b gE : Nat} {nn : Int}

/-- What is noted behind a Put. -/
def noteS (σ : St R9) (t : Int) : St R9 := { σ with r := { σ.r with ended := σ.r.ended ++ [t] } }
theorem V9_note {σ : St R9} {gh : List Nat} {t : Int} (j : Vr) : V9 (some gE) (noteS σ t).r gh j = if j = .ended then some (gE, 0, σ.r.ended ++ [t]) else V9 (some gE) σ.r gh j := by
  cases j with
  | ended => rfl
  | got p => rw [if_neg (by simp)]; rfl
  | ends p => rw [if_neg (by simp)]; rfl
theorem noted_zero {σ : St R9} {t : Int} (h : σ.steps.getD 0 0 = 0) : noted t σ = noteS σ t := by
  unfold noted
  rw [if_pos h]
  rfl
theorem noted_more {σ : St R9} {t : Int} (h : ¬ σ.steps.getD 0 0 = 0) : noted t σ = σ := by
  unfold noted
  rw [if_neg h]
set_option maxRecDepth 100000 in
set_option maxHeartbeats 2000000 in
theorem done_ok {bD tb : Nat} {w : World} {L : Lay} (ht : L.ts[0]? = some tb) (h1 : Box (S9 a b nn (some gE)) w L bD (.pointer (some ⟨tb, 0, none⟩))) :
    Done9 a b nn (some gE) true (.func (.func 19) #[] #[.pointer (some ⟨bD, 0, none⟩), .pointer (some ⟨gE, 0, none⟩)]) w L := by
  refine Or.inr ⟨rfl, _, _, rfl, enters_of Try.func19 (by kernel_rfl) rfl, fun q w' L' σ rs t hx hv h0 h1' hroom => ?_⟩
  have ht' := gh_at hx.gh.ts ht
  have hV : V9 (some gE) σ.r L'.gh .ended = some (gE, 0, σ.r.ended) := rfl
  obtain ⟨hl, sv, W⟩ : J9 (some gE) σ.r L'.own L'.gh w' := hv.rest
  obtain ⟨R, tr, b1, b3, b2⟩ := W.blk _ _ _ _ hV
  have bD' := h1.later hx
  have cD := bD'.cell
  have cE : w'.cell? ⟨gE, 0, none⟩ = some (sv .ended) := by rw [cell_of_row _ _ _ _ _ _ b1]; exact b2
  have zE : w'.frozen? ⟨gE, 0, none⟩ = false := frozen_of_row _ _ _ _ _ b1
  have g3 := W.row _ _ _ _ hV
  have hlt0 : 0 < rs.length := by rw [← hv.nts]; exact (List.getElem?_eq_some_iff.1 ht').1
  have hlts : 0 < σ.steps.length := by rw [hv.nst]; exact hlt0
  have htk := hv.task 0 tb _ _ ht' (List.getElem?_eq_getElem hlt0) (List.getElem?_eq_getElem hlts)
  have HST := Lib.hid (steps_of htk)
  have hs0 : σ.steps.getD 0 0 = σ.steps[0] := by rw [List.getD_eq_getElem?_getD, List.getElem?_eq_getElem hlts]; rfl
  by_cases hz : σ.steps[0] = 0
  · have hn := noted_zero (σ := σ) (t := t) (hs0.trans hz)
    rw [hn]
    rw [hz] at HST
    have HC : Hid (∀ (ob : Obj) (u : World) (g' cap : Nat), u.ownsRow 0 3 1 (.slice (some ⟨g', 0, none⟩) (σ.r.ended.length + 1) cap) (σ.r.ended.length + 1) (σ.r.ended.map (.int .i64) ++ [.int .i64 t]) → (w'.alloc ob).grownBy u (sv .ended).ownBlock → ((sv .ended).ownBlock = some g' ∨ g' = w'.heap.size + 1) → g' < u.heap.size →
        ∃ L2, Ext (S9 a b nn (some gE)) w' L' (u.setCell ⟨gE, 0, none⟩ (.slice (some ⟨g', 0, none⟩) (σ.r.ended.length + 1) cap)) L2 ∧ Keeps w' L' (u.setCell ⟨gE, 0, none⟩ (.slice (some ⟨g', 0, none⟩) (σ.r.ended.length + 1) cap)) L2 ∧ Inv (S9 a b nn (some gE)) q (noteS σ t) rs L2 (u.setCell ⟨gE, 0, none⟩ (.slice (some ⟨g', 0, none⟩) (σ.r.ended.length + 1) cap))) := fun ob u g' cap r1 r2 r3 r4 => by
      have hm : Made w' (w'.alloc ob) := (Made.refl w').alloc (Nat.le_refl _) _
      obtain ⟨own2, I2, X2, K2⟩ := put9 (r' := (noteS σ t).r) hv W hl hV V9_note rfl hm r1 r2 (r3.imp id (fun e => by omega)) r4
      exact ⟨_, X2, K2, I2⟩
    obtain ⟨i0, hi0', hz0, hz1, hz2⟩ := info_parts ints_info
    have l3 := lt_of_at b1
    have a3 : (sv .ended).ownBlock ≠ some gE := W.ne hV hV
    clear hx hv hl hV W b1 b2 b3 bD' h1 ht ht' htk hs0 hz hn h0 h1'
    generalize sv .ended = s0 at *
    have cgA : (w'.alloc (.cells #[.int .i64 t] 3)).cell? ⟨gE, 0, none⟩ = some s0 := (World.cell?_of_block (heap_alloc_old _ _ l3)).trans cE
    have zgA : (w'.alloc (.cells #[.int .i64 t] 3)).frozen? ⟨gE, 0, none⟩ = false := (World.frozen?_of_block (heap_alloc_old _ _ l3)).trans zE
    have hnE : ¬ w'.heap.size = gE := by omega
    have HRW : Hid ((w'.alloc (.cells #[.int .i64 t] 3)).ownsRow 0 3 1 s0 σ.r.ended.length (σ.r.ended.map (.int .i64))) := World.ownsRow.alloc g3 _
    go_enter Try.func19, Try.ntmps19
    go_wp2_with fail
    refine HST.out.mono ?_
    rintro e w6 ⟨rfl, rfl⟩
    clear HST
    go_wp2_with (at_builtin; (refine wpList_append_lies _ rfl (.tmp 7) (.tmp 9) 23 rfl 0 3 i0 _ 1 8 Try.underlying23 hi0' hz0 hz1 hz2 rfl (by omega) s0 σ.r.ended.length (σ.r.ended.map (.int .i64)) (by simp [Act.eval, Act.put]) HRW.out ⟨w'.heap.size, 0, none⟩ 1 1 [.int .i64 t] (by simp [Act.eval, Act.put]) rfl (World.news_of_block (cs := #[.int .i64 t]) (t := 3) (fr := (0, 0)) (heap_alloc_new w' _)) (by simp [Value.oneCell']) (by omega) (by unfold maxLen; omega) (by omega) (Nat.zero_le _) (w'.heap.size + 1) (by simp) ?_; intro g' cap u r1 hgrow hat hlt; have f1 := (hgrow.cell_far ⟨gE, 0, none⟩ (by simp; omega) (Ne.symm a3)).trans cgA; have f2 := (hgrow.frozen_far ⟨gE, 0, none⟩ (by simp; omega) (Ne.symm a3)).trans zgA; have HC1 := Lib.hid (HC.out _ _ _ _ r1 hgrow hat hlt); clear r1 hgrow hat hlt))
    go_end0
    exact ⟨rfl, HC1.out⟩
  · have hn := noted_more (σ := σ) (t := t) (by rw [hs0]; exact hz)
    rw [hn]
    have HF : Hid (∃ L2, Ext (S9 a b nn (some gE)) w' L' w' L2 ∧ Keeps w' L' w' L2 ∧ Inv (S9 a b nn (some gE)) q σ rs L2 w') := ⟨L', Ext.refl _ _, Keeps.refl _ _, hv⟩
    have hne : ¬ ((σ.steps[0] : Nat) : Int) = 0 := by omega
    have hne2 : (((σ.steps[0] : Nat) : Int) == 0) = false := by simpa using hz
    generalize σ.steps[0] = s at *
    clear hx hv hl hV W b1 b2 b3 bD' h1 ht ht' htk hs0 hz hn h0 h1' cE zE g3
    go_enter Try.func19, Try.ntmps19
    go_wp2_with fail
    refine HST.out.mono ?_
    rintro e w6 ⟨rfl, rfl⟩
    clear HST
    go_wp2_with fail
    go_end0
    exact ⟨rfl, HF.out⟩
end Go.Proofs.Ytndpkonihcebeaa.Kod.Nine
