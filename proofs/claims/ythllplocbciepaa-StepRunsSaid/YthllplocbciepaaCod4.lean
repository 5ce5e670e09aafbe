/- Work that is cut into steps: tasks, in plain words. -/
import Derived.Test.YthllplocbciepaaCod3
import Derived.Laws.EntriesVeiled
namespace Go.Proofs.Ythllplocbciepaa.Cod
open Go.RowKit Go.Proofs.Ythllplocbciepaa Go.Proofs.Ythllplocbciepaa.Cell
set_option linter.unusedVariables false
set_option linter.unusedSimpArgs false
variable {S : Sys}

theorem run_equalIn_func_nil {P : Program} (w : World) (d : Nat) (t : TypeId) {ps rs : Array TypeId} {v : Bool} (fn : Fn) (first cap : Array Value) (h : P.underlying t = some (.func ps rs v)) : (Op.equalIn (d + 1) t (.func fn first cap) .nilFunc).run P w = .ok false w := by
  simp [Op.equalIn, run_underlying h]
theorem run_equalIn_nilFunc_nil {P : Program} (w : World) (d : Nat) (t : TypeId) {ps rs : Array TypeId} {v : Bool} (h : P.underlying t = some (.func ps rs v)) : (Op.equalIn (d + 1) t .nilFunc .nilFunc).run P w = .ok true w := by
  simp [Op.equalIn, run_underlying h]
theorem run_eql_func_nil {P : Program} (w : World) (t : TypeId) {ps rs : Array TypeId} {v : Bool} (fn : Fn) (first cap : Array Value) (h : P.underlying t = some (.func ps rs v)) : (binOp .eql t (.func fn first cap) .nilFunc).run P w = .ok (.bool false) w := by
  simp only [binOp]
  simp [Op.equal, Op.maxDepth, run_equalIn_func_nil w 9999 t fn first cap h]
theorem run_eql_nilFunc_nil {P : Program} (w : World) (t : TypeId) {ps rs : Array TypeId} {v : Bool} (h : P.underlying t = some (.func ps rs v)) : (binOp .eql t .nilFunc .nilFunc).run P w = .ok (.bool true) w := by
  simp only [binOp]
  simp [Op.equal, Op.maxDepth, run_equalIn_nilFunc_nil w 9999 t h]
theorem code_under : Try.prog.underlying 60 = some (.func #[] #[60] false) := by kernel_rfl
theorem eql_nil (w : World) : (binOp .eql 60 .nilFunc .nilFunc).run Try.prog w = .ok (.bool true) w := run_eql_nilFunc_nil w _ code_under
theorem eql_func (w : World) (fn : Fn) (first cap : Array Value) : (binOp .eql 60 (.func fn first cap) .nilFunc).run Try.prog w = .ok (.bool false) w := run_eql_func_nil w _ fn first cap code_under
theorem arena_same {w w' : World} {a b : Nat} {c : Int} {xs : List Int} (h : Arena w a b c xs) (h1 : w'.heap[a]? = w.heap[a]?) (h2 : w'.heap[b]? = w.heap[b]?) : Arena w' a b c xs :=
  ⟨h1.trans h.ha, h2.trans h.hb, h.ne, h.c0, h.c1⟩
theorem nodup_at {l : List Nat} (h : l.Nodup) {i j x : Nat} (hi : l[i]? = some x) (hj : l[j]? = some x) : i = j := by
  obtain ⟨h1, h2⟩ := List.getElem?_eq_some_iff.1 hi
  obtain ⟨h3, h4⟩ := List.getElem?_eq_some_iff.1 hj
  exact (List.getElem_inj h).1 (h2.trans h4.symm)
/-- A task's block is written. -/
theorem Inv.settask {n : Nat} {σ : St S.R} {rs : List Value} {L : Lay} {w w' : World} (h : Inv S n σ rs L w) {i t s' : Nat} {v' : Value} (hi : L.ts[i]? = some t) (h1 : w'.heap[t]? = some (.cells #[v', .int .i64 (s' : Int)] 117 (0, 0)))
    (h2 : ∀ k : Nat, k ≠ t → w'.heap[k]? = w.heap[k]?) (h3 : w'.heap.size = w.heap.size) (hs : s' + n < 4611686018427387904) : Inv S n { σ with steps := σ.steps.set i s' } (rs.set i v') L w' := by
  have hm := List.mem_of_getElem? hi
  have hta := h.tsa t hm
  have hil : i < L.ts.length := (List.getElem?_eq_some_iff.1 hi).1
  refine ⟨arena_same h.ar (h2 _ (fun e => hta.1 e.symm)) (h2 _ (fun e => hta.2.1 e.symm)), h.fuel, h.wide, h.len, by rw [List.length_set]; exact h.nts, by simp only [List.length_set]; exact h.nst, ?_, ?_, h.once, h.tsa, fun k hk => ⟨(h.owna k hk).1, (h.owna k hk).2.1, by rw [h3]; exact (h.owna k hk).2.2⟩, S.stable _ _ w w' (fun k hk => h2 k (fun e => hta.2.2 (e ▸ hk))) h.rest, fun k hk => ⟨(h.scra k hk).1, (h.scra k hk).2.1, (h.scra k hk).2.2.1, (h.scra k hk).2.2.2.1, by rw [h3]; exact (h.scra k hk).2.2.2.2⟩⟩
  · intro j u v s hj hv hs'
    by_cases hij : i = j
    · subst hij
      rw [hi] at hj
      obtain rfl := Option.some.inj hj
      have hr : i < rs.length := by rw [← h.nts]; exact hil
      have hst : i < σ.steps.length := by rw [h.nst]; exact hr
      rw [List.getElem?_set_self hr] at hv
      simp only [List.getElem?_set_self hst] at hs'
      obtain rfl := Option.some.inj hv
      obtain rfl := Option.some.inj hs'
      exact h1
    · rw [List.getElem?_set_ne hij] at hv
      simp only [List.getElem?_set_ne hij] at hs'
      rw [h2 u (fun e => hij (nodup_at h.once hi (e ▸ hj)))]
      exact h.task j u v s hj hv hs'
  · intro s hs'
    rcases List.mem_or_eq_of_mem_set hs' with h4 | h4
    · exact h.few s h4
    · omega
theorem Ext.settask {w w' : World} {L : Lay} {t : Nat} (ht : t ∈ L.ts) (ho : w'.os = w.os) (htp : w'.tape = w.tape) (hou : w'.output = w.output) (h2 : ∀ k : Nat, k ≠ t → w'.heap[k]? = w.heap[k]?) (h3 : w'.heap.size = w.heap.size) : Ext S w L w' L :=
  ⟨ho, htp, hou, by omega, fun k hk hn => ⟨hn, h2 k (fun e => hn (Or.inr (Or.inr (Or.inl (e ▸ ht)))))⟩⟩

/-- Tasks, and what all share. -/
structure Mach (S : Sys) where
  ks : List S.K
  σ : St S.R
/-- A task does a step. -/
def Mach.step (M : Mach S) (i : Nat) : Mach S :=
  match M.ks[i]? with
  | none => M
  | some k => if S.nil k then M else
    let x := S.next k { M.σ with steps := M.σ.steps.set i (M.σ.steps.getD i 0 + 1) }
    { ks := M.ks.set i x.1, σ := x.2 }
/-- Tasks that lie in memory: each may do m steps more, all together n. -/
structure Ready (S : Sys) (m n : Nat) (M : Mach S) (rs : List Value) (L : Lay) (w : World) : Prop where
  inv : Inv S n M.σ rs L w
  len : M.ks.length = rs.length
  rep : ∀ (i : Nat) (k : S.K) (v : Value), M.ks[i]? = some k → rs[i]? = some v → Rep S m k v w L
theorem Ready.lower {m n m' n' : Nat} {M : Mach S} {rs : List Value} {L : Lay} {w : World} (h : Ready S m n M rs L w) (hm : m' ≤ m) (hn : n' ≤ n) : Ready S m' n' M rs L w := by
  refine ⟨h.inv.lower hn, h.len, fun i k v h1 h2 => ?_⟩
  have := h.rep i k v h1 h2
  clear h
  induction hm with
  | refl => exact this
  | step _ ih => exact ih this.lower
theorem Ready.later {m n : Nat} {M : Mach S} {rs : List Value} {L : Lay} {w w' : World} (h : Ready S m n M rs L w) (hm : Made w w') : Ready S m n M rs L w' :=
  ⟨h.inv.later hm, h.len, fun i k v h1 h2 => (h.rep i k v h1 h2).later (Ext.of_made hm)⟩
theorem Ready.at {m n : Nat} {M : Mach S} {rs : List Value} {L : Lay} {w : World} (h : Ready S m n M rs L w) {i t : Nat} (ht : L.ts[i]? = some t) : ∃ k v s, M.ks[i]? = some k ∧ rs[i]? = some v ∧ M.σ.steps[i]? = some s ∧ Rep S m k v w L ∧ w.heap[t]? = some (.cells #[v, .int .i64 (s : Int)] 117 (0, 0)) := by
  have h0 : i < L.ts.length := (List.getElem?_eq_some_iff.1 ht).1
  have h1 : i < rs.length := by rw [← h.inv.nts]; exact h0
  have h2 : i < M.ks.length := by rw [h.len]; exact h1
  have h3 : i < M.σ.steps.length := by rw [h.inv.nst]; exact h1
  exact ⟨_, _, _, List.getElem?_eq_getElem h2, List.getElem?_eq_getElem h1, List.getElem?_eq_getElem h3, h.rep i _ _ (List.getElem?_eq_getElem h2) (List.getElem?_eq_getElem h1), h.inv.task i t _ _ ht (List.getElem?_eq_getElem h1) (List.getElem?_eq_getElem h3)⟩

set_option maxRecDepth 100000 in
set_option maxHeartbeats 400000 in
theorem ended_of {t : Nat} {v : Value} {s : Int} {w : World} {b : Bool} (hs : (b = true ∧ v = .nilFunc) ∨ (b = false ∧ ∃ f cap, v = .func (.func f) #[] cap ∧ Enters Try.prog f)) (hc : w.heap[t]? = some (.cells #[v, .int .i64 s] 117 (0, 0))) :
    Calls Try.prog 41 #[.pointer (some ⟨t, 0, none⟩)] w fun e w' => e = .returned (.bool b) ∧ w = w' := by
  have c0 : w.cell? ⟨t, 0, none⟩ = some v := by rw [cell_of_row _ _ _ _ _ _ hc]; rfl
  rcases hs with ⟨rfl, rfl⟩ | ⟨rfl, f, cap, rfl, _⟩
  all_goals
    clear hc
    have q1 := eql_nil
    have q2 := eql_func
    go_enter Try.func41, Try.ntmps41
    go_wp2_with fail
    go_ret
    exact ⟨rfl, rfl⟩
theorem Ended_c {m n : Nat} {M : Mach S} {rs : List Value} {L : Lay} {w : World} (h : Ready S m n M rs L w) {i t : Nat} {k : S.K} (ht : L.ts[i]? = some t) (hk : M.ks[i]? = some k) :
    Calls Try.prog 41 #[.pointer (some ⟨t, 0, none⟩)] w fun e w' => e = .returned (.bool (S.nil k)) ∧ w = w' := by
  obtain ⟨k', v, s, h1, h2, h3, h4, h5⟩ := h.at ht
  rw [hk] at h1
  obtain rfl := Option.some.inj h1
  exact ended_of h4.shape h5
set_option maxRecDepth 100000 in
set_option maxHeartbeats 400000 in
theorem steps_of {t : Nat} {v : Value} {s : Int} {w : World} (hc : w.heap[t]? = some (.cells #[v, .int .i64 s] 117 (0, 0))) :
    Calls Try.prog 40 #[.pointer (some ⟨t, 0, none⟩)] w fun e w' => e = .returned (.int .i64 s) ∧ w = w' := by
  have c0 : w.cell? ⟨t, 1, none⟩ = some (.int .i64 s) := by rw [cell_of_row _ _ _ _ _ _ hc]; rfl
  clear hc
  go_enter Try.func40, Try.ntmps40
  go_wp2_with fail
  go_ret
  exact ⟨rfl, rfl⟩
/-- A task more. -/
theorem Inv.addtask {n : Nat} {σ : St S.R} {rs : List Value} {L : Lay} {w : World} (h : Inv S n σ rs L w) (v : Value) : Inv S n { σ with steps := σ.steps ++ [0] } (rs ++ [v]) { L with ts := L.ts ++ [w.heap.size] } (w.alloc (.cells #[v, .int .i64 0] 117)) := by
  have hm : Made w (w.alloc (.cells #[v, .int .i64 0] 117)) := (Made.refl _).alloc (Nat.le_refl _) _
  have h' := h.later hm
  refine ⟨h'.ar, h.fuel, h.wide, h.len, by simp [h.nts], by simp [h.nst], ?_, ?_, ?_, ?_, h'.owna, h'.rest, fun k hk => ⟨(h.scra k hk).1, (h.scra k hk).2.1, fun e => by
    have h1 := (h.scra k hk).2.2.2.2
    simp at e
    rcases e with e | e
    · exact (h.scra k hk).2.2.1 e
    · omega, (h.scra k hk).2.2.2.1, (h'.scra k hk).2.2.2.2⟩⟩
  · intro i t u s h1 h2 h3
    by_cases hi : i < L.ts.length
    · rw [List.getElem?_append_left hi] at h1
      rw [List.getElem?_append_left (by rw [← h.nts]; exact hi)] at h2
      simp only at h3
      rw [List.getElem?_append_left (by rw [h.nst, ← h.nts]; exact hi)] at h3
      exact h'.task i t u s h1 h2 h3
    · have hl : (L.ts ++ [w.heap.size])[i]? = some t := h1
      have hi2 : i = L.ts.length := by
        have := (List.getElem?_eq_some_iff.1 hl).1
        simp at this
        omega
      subst hi2
      simp at h1
      rw [h.nts] at h2 h3
      simp at h2
      rw [← h.nst] at h3
      simp at h3
      subst h1 h2 h3
      exact heap_alloc_new _ _
  · intro s hs
    simp at hs
    rcases hs with hs | rfl
    · exact h.few s hs
    · have := h.fuel
      have := h.ar.c0
      omega
  · rw [List.nodup_append]
    refine ⟨h.once, by simp, fun x hx y hy => ?_⟩
    simp at hy
    subst hy
    have := h.task_lt hx
    omega
  · intro t ht
    simp at ht
    rcases ht with ht | rfl
    · exact h.tsa t ht
    · refine ⟨fun e => ?_, fun e => ?_, fun e => ?_⟩
      · have := (Array.getElem?_eq_some_iff.1 h.ar.ha).1
        omega
      · have := (Array.getElem?_eq_some_iff.1 h.ar.hb).1
        omega
      · have := (h.owna _ e).2.2
        omega
theorem Ext.addtask {w : World} {L : Lay} (v : Value) : Ext S w L (w.alloc (.cells #[v, .int .i64 0] 117)) { L with ts := L.ts ++ [w.heap.size] } := by
  have hm : Made w (w.alloc (.cells #[v, .int .i64 0] 117)) := (Made.refl _).alloc (Nat.le_refl _) _
  refine ⟨hm.os, hm.tape, hm.output, hm.size, fun k hk hn => ⟨fun e => ?_, hm.block k hk⟩⟩
  rcases e with e | e | e | e | e
  · exact hn (Or.inl e)
  · exact hn (Or.inr (Or.inl e))
  · simp at e
    rcases e with e | e
    · exact hn (Or.inr (Or.inr (Or.inl e)))
    · omega
  · exact hn (Or.inr (Or.inr (Or.inr (Or.inl e))))
  · exact hn (Or.inr (Or.inr (Or.inr (Or.inr e))))
theorem Inv.keeps_task {n : Nat} {σ : St S.R} {rs : List Value} {L : Lay} {w w' : World} (h : Inv S n σ rs L w) {t : Nat} (ht : t ∈ L.ts) (h2 : ∀ k : Nat, k ≠ t → w'.heap[k]? = w.heap[k]?) : Keeps w L w' L :=
  ⟨rfl, rfl, fun k hk => h2 k (fun e => (h.scra k hk).2.2.1 (e ▸ ht))⟩
theorem Ready.addtask {m n : Nat} {M : Mach S} {rs : List Value} {L : Lay} {w : World} (h : Ready S m n M rs L w) {k : S.K} {v : Value} (hr : Rep S m k v w L) :
    Ready S m n { ks := M.ks ++ [k], σ := { M.σ with steps := M.σ.steps ++ [0] } } (rs ++ [v]) { L with ts := L.ts ++ [w.heap.size] } (w.alloc (.cells #[v, .int .i64 0] 117)) := by
  refine ⟨h.inv.addtask v, by simp [h.len], fun i k' v' h1 h2 => ?_⟩
  by_cases hi : i < M.ks.length
  · rw [List.getElem?_append_left hi] at h1
    rw [List.getElem?_append_left (by rw [← h.len]; exact hi)] at h2
    exact (h.rep i k' v' h1 h2).later (Ext.addtask v)
  · have hi2 : i = M.ks.length := by
      have := (List.getElem?_eq_some_iff.1 h1).1
      simp at this
      omega
    subst hi2
    simp at h1
    rw [h.len] at h2
    simp at h2
    subst h1 h2
    exact hr.later (Ext.addtask v)
set_option maxRecDepth 100000 in
set_option maxHeartbeats 400000 in
theorem New_c {v : Value} {w : World} (hv : v = .nilFunc ∨ ∃ f cap, v = .func (.func f) #[] cap) :
    Calls Try.prog 37 #[v] w fun e w' => e = .returned (.pointer (some ⟨w.heap.size, 0, none⟩)) ∧ w.alloc (.cells #[v, .int .i64 0] 117) = w' := by
  rcases hv with rfl | ⟨f, cap, rfl⟩
  all_goals
    go_enter Try.func37, Try.ntmps37
    go_wp2_with fail
    go_ret
    exact ⟨rfl, rfl⟩
theorem Rep.func {m : Nat} {k : S.K} {v : Value} {w : World} {L : Lay} (h : Rep S m k v w L) : v = .nilFunc ∨ ∃ f cap, v = .func (.func f) #[] cap := by
  rcases h.shape with ⟨_, h⟩ | ⟨_, f, cap, h, _⟩
  · exact Or.inl h
  · exact Or.inr ⟨f, cap, h⟩

/-- What a step of a task gives. -/
def Stepped (S : Sys) (m n : Nat) (M : Mach S) (i : Nat) (k : S.K) (L : Lay) (w : World) (e : Ending) (w' : World) : Prop :=
  ∃ rs' L' k', (M.step i).ks[i]? = some k' ∧ e = .returned (.bool (S.nil k')) ∧ Ext S w L w' L' ∧ Keeps w L w' L' ∧ Ready S m n (M.step i) rs' L' w'
theorem set_id {α : Type} {l : List α} {i : Nat} {x : α} (h : l[i]? = some x) : l.set i x = l := by
  obtain ⟨h1, h2⟩ := List.getElem?_eq_some_iff.1 h
  rw [← h2]
  exact List.set_getElem_self h1
set_option maxRecDepth 100000 in
set_option maxHeartbeats 1000000 in
theorem Step_c {m n : Nat} {M : Mach S} {rs : List Value} {L : Lay} {w : World} (h : Ready S (m + 1) (n + 2) M rs L w) {i t : Nat} {k : S.K} (ht : L.ts[i]? = some t) (hk : M.ks[i]? = some k) :
    Calls Try.prog 44 #[.pointer (some ⟨t, 0, none⟩)] w (Stepped S m n M i k L w) := by
  have HE := Lib.hid (Ended_c h ht hk)
  obtain ⟨k', v, s, h1, h2, h3, h4, h5⟩ := h.at ht
  rw [hk] at h1
  obtain rfl := Option.some.inj h1
  rcases h4 with ⟨hn, rfl⟩ | ⟨hn, f, cap, rfl, hf, hc⟩
  · have hst : M.step i = M := by unfold Mach.step; rw [hk]; simp [hn]
    have HF : Hid (Stepped S m n M i k L w (.returned (.bool true)) w) := ⟨rs, L, k, by rw [hst]; exact hk, by rw [hn], Ext.refl _ _, Keeps.refl _ _, by rw [hst]; exact h.lower (by omega) (by omega)⟩
    rw [hn] at HE
    clear h h2 h3 h5 hst hn
    go_enter Try.func44, Try.ntmps44
    go_wp2_with fail
    refine HE.out.mono ?_
    rintro e w1 ⟨rfl, rfl⟩
    go_wp2_with fail
    refine HE.out.mono ?_
    rintro e w1 ⟨rfl, rfl⟩
    go_wp2_with fail
    go_ret
    exact HF.out
  · have htl : t < w.heap.size := (Array.getElem?_eq_some_iff.1 h5).1
    have c0 : w.cell? ⟨t, 0, none⟩ = some (.func (.func f) #[] cap) := by rw [cell_of_row _ _ _ _ _ _ h5]; rfl
    have c1 : w.cell? ⟨t, 1, none⟩ = some (.int .i64 s) := by rw [cell_of_row _ _ _ _ _ _ h5]; rfl
    have z1 : w.frozen? ⟨t, 1, none⟩ = false := frozen_of_row _ _ _ _ _ h5
    have hsb := h.inv.few s (List.mem_of_getElem? h3)
    have e1 : (w.setCell ⟨t, 1, none⟩ (.int .i64 ((s + 1 : Nat) : Int))).heap[t]? = some (.cells #[.func (.func f) #[] cap, .int .i64 ((s + 1 : Nat) : Int)] 117 (0, 0)) := by
      rw [setCell_eq_setRow _ _ _ _ _ _ _ h5, heap_setRow_same _ _ _ _ _ _ h5]; rfl
    have o1 : ∀ k : Nat, k ≠ t → (w.setCell ⟨t, 1, none⟩ (.int .i64 ((s + 1 : Nat) : Int))).heap[k]? = w.heap[k]? := fun k hk => Cell.heap_setCell_other _ _ _ _ _ hk
    have hi1 := (h.inv.lower (show n + 1 ≤ n + 2 by omega)).settask (s' := s + 1) (v' := .func (.func f) #[] cap) ht e1 o1 (by simp [World.setCell]) (by omega)
    rw [set_id h2] at hi1
    have x1 : Ext S w L (w.setCell ⟨t, 1, none⟩ (.int .i64 ((s + 1 : Nat) : Int))) L := Ext.settask (List.mem_of_getElem? ht) rfl rfl rfl o1 (by simp [World.setCell])
    have HC := Lib.hid (hc n _ L _ rs x1 hi1)
    have c0' : (w.setCell ⟨t, 1, none⟩ (.int .i64 ((s + 1 : Nat) : Int))).cell? ⟨t, 0, none⟩ = some (.func (.func f) #[] cap) := by rw [cell_of_row _ _ _ _ _ _ e1]; rfl
    obtain ⟨w1, hw1⟩ : ∃ w1, w1 = w.setCell ⟨t, 1, none⟩ (.int .i64 ((s + 1 : Nat) : Int)) := ⟨_, rfl⟩
    rw [← hw1] at HC x1 e1 c0'
    have hgd : M.σ.steps.getD i 0 = s := by rw [List.getD_eq_getElem?_getD, h3]; rfl
    have HS : Hid (∀ x1, x1 = S.next k { M.σ with steps := M.σ.steps.set i (s + 1) } → M.step i = { ks := M.ks.set i x1.1, σ := x1.2 }) := fun x1 e => by
      subst e
      unfold Mach.step
      rw [hk]
      simp only [hn, hgd]
      rfl
    -- what stands behind the call and the store
    have HG : Hid (∀ e w2, GivesTo S (Rep S m) n (S.next k { M.σ with steps := M.σ.steps.set i (s + 1) }) rs L w1 e w2 → ∃ v f2, e = .returned v ∧ w2.cell? ⟨t, 0, none⟩ = some f2 ∧ w2.frozen? ⟨t, 0, none⟩ = false ∧ (v = .nilFunc ∨ ∃ f cap, v = .func (.func f) #[] cap) ∧
        Hid (∃ b, Calls Try.prog 41 #[.pointer (some ⟨t, 0, none⟩)] (w2.setCell ⟨t, 0, none⟩ v) (fun e w' => e = .returned (.bool b) ∧ w2.setCell ⟨t, 0, none⟩ v = w') ∧ Stepped S m n M i k L w (.returned (.bool b)) (w2.setCell ⟨t, 0, none⟩ v))) := by
      rintro e w2 ⟨v, L2, rfl, hx2, hts, hi2, hr2⟩
      have ht2 : L2.ts[i]? = some t := by rw [hts.ts]; exact ht
      have hkp1 : Keeps w L w1 L := h.inv.keeps_task (List.mem_of_getElem? ht) (fun k hk => by rw [hw1]; exact o1 k hk)
      generalize hnx : S.next k { M.σ with steps := M.σ.steps.set i (s + 1) } = x at *
      have hil : i < L2.ts.length := (List.getElem?_eq_some_iff.1 ht2).1
      have hrl : i < rs.length := by rw [← hi2.nts]; exact hil
      have hsl : i < x.2.steps.length := by rw [hi2.nst]; exact hrl
      have hb2 := hi2.task i t _ _ ht2 (List.getElem?_eq_getElem hrl) (List.getElem?_eq_getElem hsl)
      have e3 : (w2.setCell ⟨t, 0, none⟩ v).heap[t]? = some (.cells #[v, .int .i64 ((x.2.steps[i] : Nat) : Int)] 117 (0, 0)) := by
        rw [setCell_eq_setRow _ _ _ _ _ _ _ hb2, heap_setRow_same _ _ _ _ _ _ hb2]; rfl
      have o3 : ∀ k : Nat, k ≠ t → (w2.setCell ⟨t, 0, none⟩ v).heap[k]? = w2.heap[k]? := fun k hk => Cell.heap_setCell_other _ _ _ _ _ hk
      have hi3 := hi2.settask (s' := x.2.steps[i]) (v' := v) ht2 e3 o3 (by simp [World.setCell]) (by have := hi2.few _ (List.getElem_mem hsl); omega)
      rw [set_id (List.getElem?_eq_getElem hsl)] at hi3
      have x3 : Ext S w2 L2 (w2.setCell ⟨t, 0, none⟩ v) L2 := Ext.settask (List.mem_of_getElem? ht2) rfl rfl rfl o3 (by simp [World.setCell])
      have hr3 := hr2.later x3
      refine ⟨v, _, rfl, by rw [cell_of_row _ _ _ _ _ _ hb2]; rfl, frozen_of_row _ _ _ _ _ hb2, hr2.func, S.nil x.1, ended_of hr3.shape e3, rs.set i v, L2, x.1, ?_, rfl, (x1.trans hx2).trans x3, (hkp1.trans hts).trans (hi2.keeps_task (List.mem_of_getElem? ht2) o3), ?_⟩
      · rw [HS.out x rfl]
        have : i < M.ks.length := by rw [h.len]; exact hrl
        simp [this]
      · rw [HS.out x rfl]
        refine ⟨hi3, by simp [h.len], fun j k' v' hj hv => ?_⟩
        by_cases hij : i = j
        · subst hij
          have : i < M.ks.length := by rw [h.len]; exact hrl
          simp [this] at hj
          simp [hrl] at hv
          subst hj hv
          exact hr3
        · simp [List.getElem?_set_ne hij] at hj
          rw [List.getElem?_set_ne hij] at hv
          exact (h.rep j k' v' hj hv).lower.later ((x1.trans hx2).trans x3)
    have hen : ∀ (args : Array Value) (w : World), (callFunc f args).run Try.prog w = .ok (.enter f args) w := hf
    have i0 : 0 ≤ (s : Int) := by omega
    have i1 : (s : Int) < 4611686018427387904 := by omega
    rw [hn] at HE
    have HW : Hid (w1 = w.setCell ⟨t, 1, none⟩ (.int .i64 ((s : Int) + 1))) := by show _ = _; rw [hw1]; rfl
    clear h h2 h3 h5 hn hc hi1 x1 hw1 hgd HS hsb e1 o1
    go_enter Try.func44, Try.ntmps44
    go_wp2_with fail
    refine HE.out.mono ?_
    rintro e w1 ⟨rfl, rfl⟩
    go_wp2_with fail
    rw [← HW.out]
    refine HC.out.mono ?_
    rintro e w2 hg
    obtain ⟨v, f2, rfl, d0, z0, hv, HB⟩ := HG.out e w2 hg
    obtain ⟨b, HB1, HB2⟩ := HB.out
    replace HB1 := Lib.hid HB1
    replace HB2 := Lib.hid HB2
    clear hg HG HC HB HW
    rcases hv with rfl | ⟨f3, cap3, rfl⟩
    all_goals
      go_wp2_with fail
      refine HB1.out.mono ?_
      rintro e w3 ⟨rfl, rfl⟩
      go_wp2_with fail
      go_ret
      exact HB2.out
end Go.Proofs.Ythllplocbciepaa.Cod
