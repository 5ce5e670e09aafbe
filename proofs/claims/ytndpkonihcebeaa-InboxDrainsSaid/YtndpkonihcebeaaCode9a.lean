/- Layer 9's laws: drains, walked. -/
import Derived.Test.YtndpkonihcebeaaMem9
import Derived.Test.YtndpkonihcebeaaBoxD
import Derived.Deep.DeepCutAuto
import Derived.Deep.RegionHeld3
import Derived.Deep.AppendLies
import Derived.Deep.Slices
import Derived.Deep.RegionLaw
import Derived.BigRegion
namespace Go.Proofs.Ytndpkonihcebeaa.Kod.Nine
open Go.RowKit Go.Proofs.Ytndpkonihcebeaa Go.Proofs.Ytndpkonihcebeaa.Cell Go.Proofs.Ytndpkonihcebeaa.Wd
set_option linter.unusedVariables false
set_option linter.unusedSimpArgs false
variable {a b : Nat} {nn : Int} {eb : Option Nat} {hd hq : Int} {fl fd : FuncId} {cd : Array Value}

theorem ints_info : (Try.prog.info? 3).map (fun i => (i.zero, i.size, i.bytes)) = some (some (.int .i64 0), 1, 8) := by kernel_rfl
theorem link9 : LinkOK 40 lk2 := by
  refine ⟨enters_of Try.func40 (by kernel_rfl) rfl, fun i w h0 h1 => ?_⟩
  have hw : wrap64 (2 + i) = 2 + i := by rw [show wrap64 (2 + i) = IntKind.i64.wrap (2 + i) from by simp only [wrap64, IntKind.wrap_i64], IntKind.wrap_i64]; omega
  have HW := Lib.hid hw
  clear hw
  go_enter Try.func40, Try.ntmps40
  go_wp2_with fail
  go_ret
  refine ⟨?_, rfl⟩
  unfold lk2
  first | rfl | rw [HW.out] | (rw [IntKind.wrap_i64]; congr 2; omega)
theorem gh_at {l l' : List Nat} (h : l <+: l') {j x : Nat} (hj : l[j]? = some x) : l'[j]? = some x := by
  obtain ⟨t, rfl⟩ := h
  rw [List.getElem?_append_left (List.getElem?_eq_some_iff.1 hj).1]
  exact hj
/-- An owner's memory. -/
theorem own_at {q o g : Nat} {σ : St R9} {rs : List Value} {L : Lay} {w : World} {y : List Int × List Int} (hv : Inv (S9 a b nn eb) q σ rs L w) (hg : L.gh[o]? = some g) (hy : σ.r.own[o]? = some y) :
    ∃ sv R t, Vars L.own w (V9 eb σ.r L.gh) sv ∧ L.gh.length = σ.r.own.length ∧ V9 eb σ.r L.gh (.got o) = some (g, 0, y.1) ∧ V9 eb σ.r L.gh (.ends o) = some (g, 1, y.2) ∧ w.heap[g]? = some (.cells R t (0, 0)) ∧ R[0]? = some (sv (.got o)) ∧ R[1]? = some (sv (.ends o)) ∧ t ≠ 3 := by
  obtain ⟨hl, sv, W⟩ : J9 eb σ.r L.own L.gh w := hv.rest
  have h1 : V9 eb σ.r L.gh (.got o) = some (g, 0, y.1) := by simp [V9, hg, hy]
  have h2 : V9 eb σ.r L.gh (.ends o) = some (g, 1, y.2) := by simp [V9, hg, hy]
  obtain ⟨R, t, b1, b2, b3⟩ := W.blk _ _ _ _ h1
  obtain ⟨R', t', c1, c2, c3⟩ := W.blk _ _ _ _ h2
  rw [b1] at c1
  simp only [Option.some.injEq, Obj.cells.injEq] at c1
  obtain ⟨rfl, rfl, _⟩ := c1
  exact ⟨sv, R, t, W, hl, h1, h2, b1, b3, c3, b2⟩
/-- What is noted behind a ticket, behind a Drain. -/
def tookS (σ : St R9) (o : Nat) (y : List Int × List Int) (f : Int) : St R9 := { σ with r := { σ.r with own := σ.r.own.set o (y.1 ++ [f], y.2) } }
def endS (σ : St R9) (o : Nat) (y : List Int × List Int) : St R9 := { σ with r := { σ.r with own := σ.r.own.set o (y.1, y.2 ++ [(y.1.length : Int)]) } }
theorem V9_took {σ : St R9} {gh : List Nat} {o g : Nat} {y : List Int × List Int} {f : Int} (hg : gh[o]? = some g) (hy : σ.r.own[o]? = some y) (j : Vr) : V9 eb (tookS σ o y f).r gh j = if j = .got o then some (g, 0, y.1 ++ [f]) else V9 eb σ.r gh j := by
  have hlt := (List.getElem?_eq_some_iff.1 hy).1
  cases j with
  | got p =>
    by_cases h : p = o
    · subst h
      simp [V9, tookS, hg, List.getElem?_set_self hlt]
    · have h2 : ¬ (Vr.got p = Vr.got o) := fun e => h (by injection e)
      rw [if_neg h2]
      simp only [V9, tookS, List.getElem?_set_ne (fun e => h e.symm)]
  | ends p =>
    rw [if_neg (by simp)]
    by_cases h : p = o
    · subst h
      simp [V9, tookS, hg, hy, List.getElem?_set_self hlt]
    · simp only [V9, tookS, List.getElem?_set_ne (fun e => h e.symm)]
  | ended => rfl
theorem V9_end {σ : St R9} {gh : List Nat} {o g : Nat} {y : List Int × List Int} (hg : gh[o]? = some g) (hy : σ.r.own[o]? = some y) (j : Vr) : V9 eb (endS σ o y).r gh j = if j = .ends o then some (g, 1, y.2 ++ [(y.1.length : Int)]) else V9 eb σ.r gh j := by
  have hlt := (List.getElem?_eq_some_iff.1 hy).1
  cases j with
  | ends p =>
    by_cases h : p = o
    · subst h
      simp [V9, endS, hg, List.getElem?_set_self hlt]
    · have h2 : ¬ (Vr.ends p = Vr.ends o) := fun e => h (by injection e)
      rw [if_neg h2]
      simp only [V9, endS, List.getElem?_set_ne (fun e => h e.symm)]
  | got p =>
    rw [if_neg (by simp)]
    by_cases h : p = o
    · subst h
      simp [V9, endS, hg, hy, List.getElem?_set_self hlt]
    · simp only [V9, endS, List.getElem?_set_ne (fun e => h e.symm)]
  | ended => rfl
theorem took_some {o n : Nat} {f x : Int} {σ : St R9} {y : K9 × St R9} (h : took o n f x σ = some y) : ∃ u, σ.r.own[o]? = some u ∧ u.1.length < 1000000 ∧ y = (.eaI o n x, tookS σ o u f) := by
  unfold took at h
  split at h
  · simp at h
  · rename_i u hu
    split at h
    · exact ⟨u, hu, ‹_›, (Option.some.inj h).symm⟩
    · simp at h
theorem drained_some {o n : Nat} {σ : St R9} {y : K9 × St R9} (h : drained o n σ = some y) : ∃ u, σ.r.own[o]? = some u ∧ u.1.length < 1000000 ∧ u.2.length < 1000000 ∧ drains9 o n (endS σ o u) = some y := by
  unfold drained at h
  split at h
  · simp at h
  · rename_i u hu
    split at h
    · rename_i h2
      exact ⟨u, hu, h2.1, h2.2, h⟩
    · simp at h
set_option maxRecDepth 100000 in
set_option maxHeartbeats 4000000 in
theorem do_ok {o n g bo : Nat} {w : World} {L : Lay} (hg : L.gh[o]? = some g) (h1 : Box (S9 a b nn eb) w L bo (.pointer (some ⟨g, 0, none⟩))) :
    DoOK (S9 a b nn eb) (fun f => K9.eaL o n f) (fun f x σ => took o n f x σ) (drained o n) (.func (.func 47) #[] #[.pointer (some ⟨bo, 0, none⟩)]) w L := by
  refine ⟨_, _, rfl, enters_of Try.func47 (by kernel_rfl) rfl, fun m q w' L' σ rs z i x vt hx hv hU hi0 hi1 ht hz => ?_⟩
  obtain ⟨y, hy, hroom, rfl⟩ := took_some hz
  have hg' := gh_at hx.gh.gh hg
  obtain ⟨sv, R, t, W, hl, hV, hV2, b1, b2, b3, b4⟩ := own_at hv hg' hy
  have bo' := h1.later hx
  have co := bo'.cell
  have cg : w'.cell? ⟨g, 0, none⟩ = some (sv (.got o)) := by rw [cell_of_row _ _ _ _ _ _ b1]; exact b2
  have zg : w'.frozen? ⟨g, 0, none⟩ = false := frozen_of_row _ _ _ _ _ b1
  have g3 := W.row _ _ _ _ hV
  have HC : Hid (∀ (ob : Obj) (u : World) (g' cap : Nat), u.ownsRow 0 3 1 (.slice (some ⟨g', 0, none⟩) (y.1.length + 1) cap) (y.1.length + 1) (y.1.map (.int .i64) ++ [.int .i64 i]) → ((w'.alloc ob).drew).grownBy u (sv (.got o)).ownBlock → ((sv (.got o)).ownBlock = some g' ∨ g' = w'.heap.size + 1) → g' < u.heap.size →
      Calls Try.prog 48 #[vt] (u.setCell ⟨g, 0, none⟩ (.slice (some ⟨g', 0, none⟩) (y.1.length + 1) cap)) (Gives (S9 a b nn eb) m q (.eaI o n x, tookS σ o y i) rs L' w')) := fun ob u g' cap r1 r2 r3 r4 => by
    have hm : Made w' ((w'.alloc ob).drew) := Made.trans ((Made.refl w').alloc (Nat.le_refl _) _) (Made.drewN _ 1)
    obtain ⟨own2, I2, X2, K2⟩ := put9 (r' := (tookS σ o y i).r) hv W hl hV (V9_took hg' hy) (by simp [tookS]) hm r1 r2 (r3.imp id (fun e => by omega)) r4
    exact (Idle_mk (S := S9 a b nn eb) (k := K9.eaI o n x) (G := each9 o n (nx x)) (fun k hk => I2.mut_lt hk) rfl (fun σ => rfl) (ht.later X2)).mono fun e w2 hmk => Gives.ext X2 K2 (hmk.gives (Made.refl _) I2)
  have a1 : (sv (.got o)).ownBlock ≠ some bo := fun e => bo'.apart (Or.inr (Or.inr (Or.inr (Or.inl (W.rown _ _ _ _ _ hV e)))))
  have a3 : (sv (.got o)).ownBlock ≠ some g := W.ne hV hV
  have l1 := bo'.lt
  have l3 := lt_of_at b1
  have n1 : bo ≠ g := fun e => bo'.apart (Or.inr (Or.inr (Or.inr (Or.inl (e ▸ W.mine _ _ _ _ hV)))))
  obtain ⟨i0, hi0', hz0, hz1, hz2⟩ := info_parts ints_info
  have kk : ∀ (ob : Obj) (k o' : Nat), k < w'.heap.size → (w'.alloc ob).drew.cell? ⟨k, o', none⟩ = w'.cell? ⟨k, o', none⟩ ∧ (w'.alloc ob).drew.frozen? ⟨k, o', none⟩ = w'.frozen? ⟨k, o', none⟩ := fun ob k o' hk => ⟨World.cell?_of_block (heap_alloc_old _ _ hk), World.frozen?_of_block (heap_alloc_old _ _ hk)⟩
  have coA := fun ob => ((kk ob bo 0 l1).1).trans co
  have cgA := fun ob => ((kk ob g 0 l3).1).trans cg
  have zgA := fun ob => ((kk ob g 0 l3).2).trans zg
  obtain ⟨ft, ct, rfl⟩ := ht.func
  clear kk
  clear hx hv ht hz W hl hV hV2 b1 b2 b3 b4 bo' h1 hg hg' hy hU hi0 hi1
  generalize sv (.got o) = s0 at *
  go_enter Try.func47, Try.ntmps47
  go_wp2_with fail
  go_region_law ((refine step_append_lies _ (by rfl) _ _ _ (by rfl) 0 3 i0 _ 1 8 Try.underlying23 hi0' hz0 hz1 hz2 rfl (by omega) s0 y.1.length (y.1.map (.int .i64)) (by rfl) ((g3.alloc _).drew) ⟨w'.heap.size, 0, none⟩ 1 1 [.int .i64 i] (by rfl) (by rfl) (World.news_of_block (cs := #[.int .i64 i]) (t := 3) (fr := (0, 0)) (heap_alloc_new w' _)) (by simp [Value.oneCell']) (by omega) (by unfold maxLen; omega) (by omega) (by simp) (w'.heap.size + 1) (by simp) ?_; intro g' cap u r1 hgrow hat hlt; have f1 := (hgrow.cell_far ⟨g, 0, none⟩ (by simp; omega) (Ne.symm a3)).trans (cgA _); have f2 := (hgrow.frozen_far ⟨g, 0, none⟩ (by simp; omega) (Ne.symm a3)).trans (zgA _); have f3 := (hgrow.cell_far ⟨bo, 0, none⟩ (by simp; omega) (Ne.symm a1)).trans (coA _)))
  all_goals
    have HC1 := Lib.hid (HC.out _ _ _ _ r1 hgrow hat hlt)
    clear r1 hgrow hat hlt f1 f2 f3 HC
    go_wp2_with fail
    refine HC1.out.mono ?_
    rintro e w2 hg
    obtain ⟨v, rfl⟩ := hg.ret
    have HF := Lib.hid hg
    clear hg HC1
    go_wp2_with fail
    go_ret
    exact HF.out
end Go.Proofs.Ytndpkonihcebeaa.Kod.Nine
