/- Work that is cut into steps, one task alone: a task, its steps, and what the law does with it. -/
import Derived.Test.YtndpkonihcebeaaSeq2
import Derived.Laws.EntriesVeiled
namespace Go.Proofs.Ytndpkonihcebeaa.Seq
open Go.RowKit Go.Proofs.Ytndpkonihcebeaa Go.Proofs.Ytndpkonihcebeaa.Cell
set_option linter.unusedVariables false
set_option linter.unusedSimpArgs false
variable {a b : Nat}

theorem run_equalIn_func_nil {P : Program} (w : World) (d : Nat) (t : TypeId) {ps rs : Array TypeId} {v : Bool} (fn : Fn) (first cap : Array Value) (h : P.underlying t = some (.func ps rs v)) : (Op.equalIn (d + 1) t (.func fn first cap) .nilFunc).run P w = .ok false w := by
  simp [Op.equalIn, run_underlying h]
theorem run_equalIn_nilFunc_nil {P : Program} (w : World) (d : Nat) (t : TypeId) {ps rs : Array TypeId} {v : Bool} (h : P.underlying t = some (.func ps rs v)) : (Op.equalIn (d + 1) t .nilFunc .nilFunc).run P w = .ok true w := by
  simp [Op.equalIn, run_underlying h]
theorem run_eql_func_nil {P : Program} (w : World) (t : TypeId) {ps rs : Array TypeId} {v : Bool} (fn : Fn) (first cap : Array Value) (h : P.underlying t = some (.func ps rs v)) : (binOp .eql t (.func fn first cap) .nilFunc).run P w = .ok (.bool false) w := by
  simp only [binOp]
  simp [Op.equal, Op.maxDepth, run_equalIn_func_nil w 9999 t fn first cap h]
theorem run_eql_nilFunc_nil {P : Program} (w : World) (t : TypeId) {ps rs : Array TypeId} {v : Bool} (h : P.underlying t = some (.func ps rs v)) : (binOp .eql t .nilFunc .nilFunc).run P w = .ok (.bool true) w := by
  simp only [binOp]
  simp [Op.equal, Op.maxDepth, run_equalIn_nilFunc_nil w 9999 t h]
theorem code_under : Try.prog.underlying 40 = some (.func #[] #[40] false) := by kernel_rfl
theorem eql_nil (w : World) : (binOp .eql 40 .nilFunc .nilFunc).run Try.prog w = .ok (.bool true) w := run_eql_nilFunc_nil w _ code_under
theorem eql_func (w : World) (fn : Fn) (first cap : Array Value) : (binOp .eql 40 (.func fn first cap) .nilFunc).run Try.prog w = .ok (.bool false) w := run_eql_func_nil w _ fn first cap code_under
set_option maxRecDepth 100000 in
set_option maxHeartbeats 400000 in
theorem ended_of {t : Nat} {v : Value} {s : Int} {w : World} {b : Bool} (hs : (b = true ∧ v = .nilFunc) ∨ (b = false ∧ ∃ f cap, v = .func (.func f) #[] cap ∧ Enters Try.prog f)) (hc : w.heap[t]? = some (.cells #[v, .int .i64 s] 108 (0, 0))) :
    Calls Try.prog 52 #[.pointer (some ⟨t, 0, none⟩)] w fun e w' => e = .returned (.bool b) ∧ w = w' := by
  have c0 : w.cell? ⟨t, 0, none⟩ = some v := by rw [cell_of_row _ _ _ _ _ _ hc]; rfl
  rcases hs with ⟨rfl, rfl⟩ | ⟨rfl, f, cap, rfl, _⟩
  all_goals
    clear hc
    have q1 := eql_nil
    have q2 := eql_func
    go_enter Try.func52, Try.ntmps52
    go_wp2_with fail
    go_ret
    exact ⟨rfl, rfl⟩
set_option maxRecDepth 100000 in
set_option maxHeartbeats 400000 in
theorem New_c {v : Value} {w : World} (hv : v = .nilFunc ∨ ∃ f cap, v = .func (.func f) #[] cap) :
    Calls Try.prog 14 #[v] w fun e w' => e = .returned (.pointer (some ⟨w.heap.size, 0, none⟩)) ∧ w.alloc (.cells #[v, .int .i64 0] 108) = w' := by
  rcases hv with rfl | ⟨f, cap, rfl⟩
  all_goals
    go_enter Try.func14, Try.ntmps14
    go_wp2_with fail
    go_ret
    exact ⟨rfl, rfl⟩

/-- A task in the midst of its work. -/
structure Live (a b n : Nat) (v : Value) (c : Int) (Q : World → Zone → Int → Prop) (t s : Nat) (w : World) (Z : Zone) : Prop where
  does : ∃ w0 Z0, Does a b n v w0 Z0 c Q ∧ Btw w0 Z0 w Z ∧ ZOk a b w0 Z0
  ok : ZOk a b w Z
  cnt : Cnt a b w c
  zt : Z.T t
  task : w.heap[t]? = some (.cells #[v, .int .i64 (s : Int)] 108 (0, 0))
def isNil : Value → Bool
  | .nilFunc => true
  | _ => false
theorem shape_ended {a b n : Nat} {v : Value} {w : World} {Z : Zone} {c : Int} {Q : World → Zone → Int → Prop} (h : Does a b n v w Z c Q) : (isNil v = true ∧ v = .nilFunc) ∨ (isNil v = false ∧ ∃ f cap, v = .func (.func f) #[] cap ∧ Enters Try.prog f) := by
  rcases h.shape with rfl | ⟨f, cap, rfl, hf⟩
  · exact Or.inl ⟨rfl, rfl⟩
  · exact Or.inr ⟨rfl, f, cap, rfl, hf⟩
theorem settask {w : World} {Z : Zone} {t : Nat} {o : Nat} {x : Value} (hz : ZOk a b w Z) (ht : Z.T t) : Btw w Z (w.setCell ⟨t, o, none⟩ x) Z ∧ ZOk a b (w.setCell ⟨t, o, none⟩ x) Z := by
  have hs : (w.setCell ⟨t, o, none⟩ x).heap.size = w.heap.size := by simp [World.setCell]
  refine ⟨⟨⟨rfl, rfl, rfl, by omega, fun k hk h1 h2 => ⟨h1, h2, Cell.heap_setCell_other _ _ _ _ _ (fun e => h2 (e ▸ ht))⟩⟩, rfl, fun k hk => Cell.heap_setCell_other _ _ _ _ _ (fun e => hz.ap k hk (e ▸ ht))⟩, hz.later (by omega)⟩
/-- What a step of the task gives. -/
def Stepped (a b n : Nat) (c : Int) (Q : World → Zone → Int → Prop) (t s : Nat) (w : World) (Z : Zone) (e : Ending) (w' : World) : Prop :=
  ∃ v c' s' Z', e = .returned (.bool (isNil v)) ∧ Live a b n v c' Q t s' w' Z' ∧ (c' = c ∨ c' = c + 1) ∧ s' ≤ s + 1 ∧ Ext w Z w' Z'
theorem Live.nilled {n : Nat} {c : Int} {Q : World → Zone → Int → Prop} {t s : Nat} {w : World} {Z : Zone} (h : Live a b n .nilFunc c Q t s w Z) (m : Nat) : Live a b m .nilFunc c Q t s w Z := by
  obtain ⟨⟨w0, Z0, h0, h1, h2⟩, h3, h4, h5, h6⟩ := h
  refine ⟨⟨w0, Z0, ?_, h1, h2⟩, h3, h4, h5, h6⟩
  have hq : Value.nilFunc = .nilFunc ∧ Q w0 Z0 c := by
    cases n with
    | zero => exact h0
    | succ n => rcases h0 with h0 | ⟨f, cap, hv, _⟩
                · exact h0
                · cases hv
  cases m with
  | zero => exact hq
  | succ m => exact Or.inl hq
set_option maxRecDepth 100000 in
set_option maxHeartbeats 1000000 in
theorem Step_s {n : Nat} {v : Value} {c : Int} {Q : World → Zone → Int → Prop} {t s : Nat} {w : World} {Z : Zone} (h : Live a b n v c Q t s w Z) (hs : s < 1000000) :
    Calls Try.prog 53 #[.pointer (some ⟨t, 0, none⟩)] w (Stepped a b (n - 1) c Q t s w Z) := by
  obtain ⟨w0, Z0, hd, hb, hz0⟩ := h.does
  rcases hd.shape with rfl | ⟨f, cap, rfl, hf⟩
  · have HE := Lib.hid (ended_of (b := true) (Or.inl ⟨rfl, rfl⟩) h.task)
    have HF : Hid (Stepped a b (n - 1) c Q t s w Z (.returned (.bool true)) w) := ⟨_, c, s, Z, rfl, h.nilled _, Or.inl rfl, by omega, Ext.refl _ _⟩
    clear h hd hb hz0
    go_enter Try.func53, Try.ntmps53
    go_wp2_with fail
    refine HE.out.mono ?_
    rintro e w1 ⟨rfl, rfl⟩
    go_wp2_with fail
    refine HE.out.mono ?_
    rintro e w1 ⟨rfl, rfl⟩
    go_wp2_with fail
    go_ret
    exact HF.out
  · obtain ⟨m, rfl⟩ : ∃ m, n = m + 1 := by
      cases n with
      | zero => exact absurd hd.1 (by simp)
      | succ m => exact ⟨m, rfl⟩
    have hc : ∀ w' Z', Btw w0 Z0 w' Z' → ZOk a b w' Z' → Calls Try.prog f cap w' (StepTo a b m w' Z' c Q) := by
      rcases hd with ⟨hv, _⟩ | ⟨f', cap', hv, _, hc⟩
      · cases hv
      · cases hv; exact hc
    have HE := Lib.hid (ended_of (b := false) (Or.inr ⟨rfl, f, cap, rfl, hf⟩) h.task)
    have h5 := h.task
    have htl : t < w.heap.size := (Array.getElem?_eq_some_iff.1 h5).1
    have c0 : w.cell? ⟨t, 0, none⟩ = some (.func (.func f) #[] cap) := by rw [cell_of_row _ _ _ _ _ _ h5]; rfl
    have c1 : w.cell? ⟨t, 1, none⟩ = some (.int .i64 s) := by rw [cell_of_row _ _ _ _ _ _ h5]; rfl
    have z1 : w.frozen? ⟨t, 1, none⟩ = false := frozen_of_row _ _ _ _ _ h5
    have e1 : (w.setCell ⟨t, 1, none⟩ (.int .i64 ((s : Int) + 1))).heap[t]? = some (.cells #[.func (.func f) #[] cap, .int .i64 ((s : Int) + 1)] 108 (0, 0)) := by
      rw [setCell_eq_setRow _ _ _ _ _ _ _ h5, heap_setRow_same _ _ _ _ _ _ h5]; rfl
    obtain ⟨b1, k1⟩ := settask (o := 1) (x := .int .i64 ((s : Int) + 1)) h.ok h.zt
    have c0' : (w.setCell ⟨t, 1, none⟩ (.int .i64 ((s : Int) + 1))).cell? ⟨t, 0, none⟩ = some (.func (.func f) #[] cap) := by rw [cell_of_row _ _ _ _ _ _ e1]; rfl
    have HC := Lib.hid (hc _ _ (hb.trans b1) k1)
    have HG : Hid (∀ e w2, StepTo a b m (w.setCell ⟨t, 1, none⟩ (.int .i64 ((s : Int) + 1))) Z c Q e w2 → ∃ v f2, e = .returned v ∧ w2.cell? ⟨t, 0, none⟩ = some f2 ∧ w2.frozen? ⟨t, 0, none⟩ = false ∧ (v = .nilFunc ∨ ∃ f cap, v = .func (.func f) #[] cap) ∧
        Hid (∃ bb, Calls Try.prog 52 #[.pointer (some ⟨t, 0, none⟩)] (w2.setCell ⟨t, 0, none⟩ v) (fun e w' => e = .returned (.bool bb) ∧ w2.setCell ⟨t, 0, none⟩ v = w') ∧ Stepped a b m c Q t s w Z (.returned (.bool bb)) (w2.setCell ⟨t, 0, none⟩ v))) := by
      rintro e w2 ⟨v, Z2, c2, rfl, hw, hz2, hcc, hcnt, hd2⟩
      have ht2 : Z2.T t := by rw [hw.t]; exact h.zt
      have hb2 := (hw.keep t h.zt).trans e1
      have e3 : (w2.setCell ⟨t, 0, none⟩ v).heap[t]? = some (.cells #[v, .int .i64 ((s : Int) + 1)] 108 (0, 0)) := by
        rw [setCell_eq_setRow _ _ _ _ _ _ _ hb2, heap_setRow_same _ _ _ _ _ _ hb2]; rfl
      obtain ⟨b3, k3⟩ := settask (o := 0) (x := v) hz2 ht2
      refine ⟨v, _, rfl, by rw [cell_of_row _ _ _ _ _ _ hb2]; rfl, frozen_of_row _ _ _ _ _ hb2, ?_, isNil v, ended_of (shape_ended hd2) e3, v, c2, s + 1, Z2, rfl, ⟨⟨w2, Z2, hd2, b3, hz2⟩, k3, hcnt.btw hz2 b3, ht2, by exact_mod_cast e3⟩, hcc, by omega, b1.ext.trans (hw.ext.trans b3.ext)⟩
      rcases hd2.shape with h | ⟨f, cap, h, _⟩
      · exact Or.inl h
      · exact Or.inr ⟨f, cap, h⟩
    have hen : ∀ (args : Array Value) (w : World), (callFunc f args).run Try.prog w = .ok (.enter f args) w := hf
    have i0 : 0 ≤ (s : Int) := by omega
    have i1 : (s : Int) < 4611686018427387904 := by omega
    rw [Nat.add_sub_cancel]
    obtain ⟨wx, hwx⟩ : ∃ wx, wx = w.setCell ⟨t, 1, none⟩ (.int .i64 ((s : Int) + 1)) := ⟨_, rfl⟩
    rw [← hwx] at HC HG c0'
    have HW := Lib.hid hwx
    clear h h5 hc hd hb hz0 e1 b1 k1 hwx
    go_enter Try.func53, Try.ntmps53
    go_wp2_with fail
    refine HE.out.mono ?_
    rintro e w1 ⟨rfl, rfl⟩
    go_wp2_with fail
    rw [← HW.out]
    refine HC.out.mono ?_
    rintro e w2 hg
    obtain ⟨v, f2, rfl, d0, z0, hv, HB⟩ := HG.out e w2 hg
    obtain ⟨bb, HB1, HB2⟩ := HB.out
    replace HB1 := Lib.hid HB1
    replace HB2 := Lib.hid HB2
    clear hg HG HC HB
    rcases hv with rfl | ⟨f3, cap3, rfl⟩
    all_goals
      go_wp2_with fail
      refine HB1.out.mono ?_
      rintro e w3 ⟨rfl, rfl⟩
      go_wp2_with fail
      go_ret
      exact HB2.out
end Go.Proofs.Ytndpkonihcebeaa.Seq
