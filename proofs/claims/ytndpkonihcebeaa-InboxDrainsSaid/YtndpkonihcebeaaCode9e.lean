/- Layer 9's laws: puts, walked: the whole. -/
import Derived.Test.YtndpkonihcebeaaCode9d
namespace Go.Proofs.Ytndpkonihcebeaa.Kod.Nine
open Go.RowKit Go.Proofs.Ytndpkonihcebeaa Go.Proofs.Ytndpkonihcebeaa.Cell Go.Proofs.Ytndpkonihcebeaa.Wd
set_option linter.unusedVariables false
set_option linter.unusedSimpArgs false
variable {a b : Nat} {nn : Int} {eb : Option Nat} {fd : FuncId} {cd : Array Value}

theorem ints_size : (Try.prog.info? 3).map (·.size) = some 1 := by kernel_rfl
theorem ints_under : Try.prog.underlying 23 = some (.slice 3) := by kernel_rfl
theorem run_tail (A : Addr) {n c : Nat} (hc1 : ¬ c = 1) (w : World) : (Instr.sliceAt 23 (.slice (some A) (n + 1) c) (some (.int .i64 1)) none none).run Try.prog w = .ok (.slice (some (A.add 1)) n (c - 1)) w := by
  obtain ⟨inf, hi, hs⟩ := Option.map_eq_some_iff.1 ints_size
  have h1 : (sizeOf 3).run Try.prog w = .ok 1 w := by simp [sizeOf, typeInfo, hi, hs]
  have h2 := run_sliceBound (P := Try.prog) w .i64 1 (n + 1) .sliceB (by omega) (by omega)
  simp [Instr.sliceAt, run_underlying ints_under, Instr.slice, Instr.sliceBounds, h1, h2, hc1]
theorem Lies.tail {S : Sys} {w : World} {L : Lay} {A : Addr} {v : Value} {vs : List Value} (h : Lies S w L (some A) (v :: vs)) : Lies S w L (some (A.add 1)) vs := fun i u hi => by
  obtain ⟨a, ha, h1, h2, h3⟩ := h (i + 1) u (by simpa using hi)
  obtain rfl := Option.some.inj ha
  have hb : (A.add 1).block = A.block := by unfold Addr.add; split <;> rfl
  refine ⟨_, rfl, by rw [hb]; exact h1, by rw [hb]; exact h2, ?_⟩
  have e : (A.add 1).add i = A.add (i + 1) := by
    rw [Addr.add_add, Nat.add_comm 1 i]
  rw [e]
  exact h3
theorem Lies.head {S : Sys} {w : World} {L : Lay} {A : Addr} {v : Value} {vs : List Value} (h : Lies S w L (some A) (v :: vs)) : w.cell? A = some v := by
  obtain ⟨a, ha, h1, h2, h3⟩ := h 0 v rfl
  obtain rfl := Option.some.inj ha
  have e : A.add 0 = A := by
    cases A
    unfold Addr.add
    split <;> simp_all
  rwa [e] at h3

/-- A ticket's Put is noted as ended, if the first task has not begun. -/
def noted (t : Int) (σ : St R9) : St R9 := if σ.steps.getD 0 0 = 0 then { σ with r := { σ.r with ended := σ.r.ended ++ [t] } } else σ
theorem putted_some {d : Bool} {t : Int} {l : List Int} {σ : St R9} {y : K9 × St R9} (h : putted d t l σ = some y) : σ.r.ended.length < 1000000 ∧ puts9 d l (if d = true then noted t σ else σ) = some y := by
  unfold putted at h
  split at h
  · refine ⟨‹_›, ?_⟩
    rw [← h]
    cases d with
    | false => simp
    | true => simp [noted]
  · simp at h
/-- What is told of a Put that has ended. -/
def Done9 (a b : Nat) (nn : Int) (eb : Option Nat) (d : Bool) (vd : Value) (w : World) (L : Lay) : Prop :=
  (d = false ∧ vd = .nilFunc) ∨ (d = true ∧ ∃ f cap, vd = .func (.func f) #[] cap ∧ Enters Try.prog f ∧ ∀ q w' L' σ rs t, Ext (S9 a b nn eb) w L w' L' → Inv (S9 a b nn eb) q σ rs L' w' → 0 ≤ t → t < 4294967295 → σ.r.ended.length < 1000000 →
    Calls Try.prog f (#[.int .i64 t] ++ cap) w' fun e w2 => e = .returned (.tuple #[]) ∧ ∃ L2, Ext (S9 a b nn eb) w' L' w2 L2 ∧ Keeps w' L' w2 L2 ∧ Inv (S9 a b nn eb) q (noted t σ) rs L2 w2)
theorem Done9.later {d : Bool} {vd : Value} {w w' : World} {L L' : Lay} (h : Done9 a b nn eb d vd w L) (e : Ext (S9 a b nn eb) w L w' L') : Done9 a b nn eb d vd w' L' := by
  rcases h with h | ⟨h1, f, cap, h2, h3, h4⟩
  · exact Or.inl h
  · exact Or.inr ⟨h1, f, cap, h2, h3, fun q w2 L2 σ rs t hx => h4 q w2 L2 σ rs t (e.trans hx)⟩
/-- Whether a ticket is dead, as it is asked. -/
def Asks9 (a b : Nat) (nn : Int) (eb : Option Nat) (fd : FuncId) (cd : Array Value) (d : Bool) (w : World) (L : Lay) : Prop := ∀ t l, DeadOK (S9 a b nn eb) fd cd (fun h => K9.putD d t l h) (fun h dd => if dd then K9.putN d t l h else K9.putS d t l h) w L
theorem Asks9.later {d : Bool} {w w' : World} {L L' : Lay} (h : Asks9 a b nn eb fd cd d w L) (e : Ext (S9 a b nn eb) w L w' L') : Asks9 a b nn eb fd cd d w' L' := fun t l => (h t l).later e
/-- What puts give. -/
def Puts9 (a b : Nat) (nn : Int) (eb : Option Nat) (fd : FuncId) (cd : Array Value) (d : Bool) (l : List Int) : Prop := ∀ (m q n c : Nat) (A : Option Addr) (vd : Value) (w : World) (L : Lay) (σ : St R9) (rs : List Value) (y : K9 × St R9), Inv (S9 a b nn eb) q σ rs L w → Hid (n = l.length) → n ≤ c → c ≤ 9223372036854775807 → Lies (S9 a b nn eb) w L A (l.map (.int .i64)) → Done9 a b nn eb d vd w L → Asks9 a b nn eb fd cd d w L → (∀ t ∈ l, 0 ≤ t ∧ t < 4294967295) → puts9 d l σ = some y →
  Calls Try.prog 16 #[bx9 a b nn eb fd cd, .slice A n c, vd] w (Gives (S9 a b nn eb) m q y rs L w)
/-- The last part: those behind are put. -/
theorem puts_rest {m q n c bs bl : Nat} {d : Bool} {t : Int} {l : List Int} {A : Addr} {vd : Value} {w v : World} {L L1 : Lay} {σ : St R9} {rs : List Value} {y : K9 × St R9} (IH : Puts9 a b nn eb fd cd d l) (hn : Hid (n = l.length)) (hnc : n + 1 ≤ c) (hc : c ≤ 9223372036854775807) (hl : Lies (S9 a b nn eb) w L (some A) ((t :: l).map (.int .i64))) (hd : Done9 a b nn eb d vd w L) (hA : Asks9 a b nn eb fd cd d w L) (hr : ∀ u ∈ l, 0 ≤ u ∧ u < 4294967295)
    (hx : Ext (S9 a b nn eb) w L v L1) (hk : Keeps w L v L1) (hv : Inv (S9 a b nn eb) q σ rs L1 v) (hy : puts9 d l σ = some y) :
    Hid (Calls Try.prog 16 #[bx9 a b nn eb fd cd, if c = 1 then .slice (some A) 0 0 else .slice (some (A.add 1)) n (c - 1), vd] v.drew (Gives (S9 a b nn eb) m q y rs L w)) := by
  have md := Made.drewN v 1
  have e1 := hx.trans (Ext.of_made md)
  have k1 := hk.trans (hv.keeps_made md)
  have i1 := hv.later md
  have hn0 : n = l.length := hn.out
  show Calls _ _ _ _ _
  by_cases hc1 : c = 1
  · have hl0 : l = [] := List.length_eq_zero_iff.1 (by omega)
    obtain rfl : n = 0 := by omega
    rw [if_pos hc1]
    exact (IH m q 0 0 (some A) vd v.drew L1 σ rs y i1 hn (by omega) (by omega) (by rw [hl0]; exact Lies.nil) (hd.later e1) (hA.later e1) hr hy).mono fun e w2 hg => Gives.ext e1 k1 hg
  · rw [if_neg hc1]
    exact (IH m q n (c - 1) (some (A.add 1)) vd v.drew L1 σ rs y i1 hn (by omega) (by omega) (Lies.tail (hl.later e1)) (hd.later e1) (hA.later e1) hr hy).mono fun e w2 hg => Gives.ext e1 k1 hg
theorem func_under : Try.prog.underlying 48 = some (.func #[3] #[] false) := by kernel_rfl
theorem neq_nil (w : World) : (binOp .neq 48 .nilFunc .nilFunc).run Try.prog w = .ok (.bool false) w := by
  simp only [binOp]
  simp [Op.equal, Op.maxDepth, run_equalIn_nilFunc_nil w 9999 48 func_under]
theorem neq_func (w : World) (fn : Fn) (first cap : Array Value) : (binOp .neq 48 (.func fn first cap) .nilFunc).run Try.prog w = .ok (.bool true) w := by
  simp only [binOp]
  simp [Op.equal, Op.maxDepth, run_equalIn_func_nil w 9999 48 fn first cap func_under]
set_option maxRecDepth 100000 in
set_option maxHeartbeats 8000000 in
theorem puts1_takes {m n c bd bl bs : Nat} {d : Bool} {t : Int} {l : List Int} {A : Addr} {vd : Value} {w : World} {L : Lay} (IH : Puts9 a b nn eb fd cd d l) (hn : Hid (n = l.length)) (hnc : n + 1 ≤ c) (hc : c ≤ 9223372036854775807) (hl : Lies (S9 a b nn eb) w L (some A) ((t :: l).map (.int .i64))) (hd : Done9 a b nn eb d vd w L) (hA : Asks9 a b nn eb fd cd d w L) (hr : ∀ u ∈ t :: l, 0 ≤ u ∧ u < 4294967295)
    (h1 : Box (S9 a b nn eb) w L bd vd) (h2 : Box (S9 a b nn eb) w L bl (.slice (some A) (n + 1) c)) (hs : BB9 a b nn eb fd cd w L bs) :
    Takes (S9 a b nn eb) m #[] (fun σ => putted d t l σ) (.func (.func 51) #[] #[.pointer (some ⟨bd, 0, none⟩), .pointer (some ⟨bl, 0, none⟩), .pointer (some ⟨bs, 0, none⟩)]) w L := by
  refine ⟨_, _, rfl, enters_of Try.func51 (by kernel_rfl) rfl, fun q w' L' σ rs y hx hv hy => ?_⟩
  obtain ⟨hroom, hy2⟩ := putted_some hy
  obtain ⟨d0, d1, d2, d3, d4, d5, d6⟩ := (hs.later hx).cells
  have c1 := (h1.later hx).cell
  have c2 := (h2.later hx).cell
  have hl' := hl.later hx
  have ht := hr t (by simp)
  have hr2 : ∀ u ∈ l, 0 ≤ u ∧ u < 4294967295 := fun u hu => hr u (by simp [hu])
  have hA' := hA.later hx
  rcases hd.later hx with ⟨rfl, rfl⟩ | ⟨rfl, f, cap, rfl, hf, hdc⟩
  · have HC := puts_rest (m := m) (bs := bs) (bl := bl) IH hn hnc hc hl' (Or.inl ⟨rfl, rfl⟩) hA' hr2 (Ext.refl _ _) (Keeps.refl _ _) hv (by simpa using hy2)
    have hG : Hid (∀ e w2, Gives (S9 a b nn eb) m q y rs L' w' e w2 → w2.cell? ⟨bs, 0, none⟩ = some (.pointer (some ⟨a, 0, none⟩)) ∧ w2.cell? ⟨bs, 1, none⟩ = some (.int .i64 0) ∧ w2.cell? ⟨bs, 2, none⟩ = some (.func (.func 40) #[] #[]) ∧ w2.cell? ⟨bs, 3, none⟩ = some (.func (.func fd) #[] cd) ∧ w2.cell? ⟨bs, 4, none⟩ = some (.pointer (some ⟨a, 0, none⟩)) ∧ w2.cell? ⟨bs, 5, none⟩ = some (.int .i64 1) ∧ w2.cell? ⟨bs, 6, none⟩ = some (.func (.func 40) #[] #[]) ∧ w2.cell? ⟨bl, 0, none⟩ = some (.slice (some A) (n + 1) c) ∧ w2.cell? ⟨bd, 0, none⟩ = some .nilFunc ∧ ∃ v, e = .returned v) := by
      rintro e w2 ⟨v, L2, rfl, hx2, _⟩
      obtain ⟨e0, e1, e2, e3, e4, e5, e6⟩ := (hs.later (hx.trans hx2)).cells
      exact ⟨e0, e1, e2, e3, e4, e5, e6, (h2.later (hx.trans hx2)).cell, (h1.later (hx.trans hx2)).cell, v, rfl⟩
    have hnn := neq_nil
    by_cases hc1 : c = 1
    · obtain rfl : n = 0 := by omega
      subst hc1
      simp only [if_true] at HC
      clear IH hn hnc hc hl hd hA hr h1 h2 hs hx hv hy hy2 hl' ht hr2 hA' hroom
      rw [Array.empty_append]
      unfold bx9 bxv at HC
      unfold bxr at HC
      go_enter Try.func51, Try.ntmps51
      go_wp2_with fail
      go_region_held3 (fun w1 => w1.cell? ⟨bs, 0, none⟩ = some (.pointer (some ⟨a, 0, none⟩)) ∧ w1.cell? ⟨bs, 1, none⟩ = some (.int .i64 0) ∧ w1.cell? ⟨bs, 2, none⟩ = some (.func (.func 40) #[] #[]) ∧ w1.cell? ⟨bs, 3, none⟩ = some (.func (.func fd) #[] cd) ∧ w1.cell? ⟨bs, 4, none⟩ = some (.pointer (some ⟨a, 0, none⟩)) ∧ w1.cell? ⟨bs, 5, none⟩ = some (.int .i64 1) ∧ w1.cell? ⟨bs, 6, none⟩ = some (.func (.func 40) #[] #[]) ∧ w1.cell? ⟨bl, 0, none⟩ = some (.slice (some A) 1 1) ∧ w1.cell? ⟨bd, 0, none⟩ = some .nilFunc) (first | (refine ⟨?_, ?_, ?_, ?_, ?_, ?_, ?_, ?_, ?_⟩ <;> first | assumption | simpa using d0 | simpa using d1 | simpa using d2 | simpa using d3 | simpa using d4 | simpa using d5 | simpa using d6 | simpa using c2 | simpa using c1)) ((go_at_call 16; refine HC.out.mono ?_; rintro e w2 hg; obtain ⟨e0, e1, e2, e3, e4, e5, e6, e7, e8, v, rfl⟩ := hG.out e w2 hg))
      all_goals
        go_wp2_with fail
        go_ret
        exact hg
    · have hsl := fun w1 => run_tail A (n := n) hc1 w1
      simp only [if_neg hc1] at HC
      clear IH hn hnc hc hl hd hA hr h1 h2 hs hx hv hy hy2 hl' ht hr2 hA' hroom
      rw [Array.empty_append]
      unfold bx9 bxv at HC
      unfold bxr at HC
      go_enter Try.func51, Try.ntmps51
      go_wp2_with fail
      go_region_held3 (fun w1 => w1.cell? ⟨bs, 0, none⟩ = some (.pointer (some ⟨a, 0, none⟩)) ∧ w1.cell? ⟨bs, 1, none⟩ = some (.int .i64 0) ∧ w1.cell? ⟨bs, 2, none⟩ = some (.func (.func 40) #[] #[]) ∧ w1.cell? ⟨bs, 3, none⟩ = some (.func (.func fd) #[] cd) ∧ w1.cell? ⟨bs, 4, none⟩ = some (.pointer (some ⟨a, 0, none⟩)) ∧ w1.cell? ⟨bs, 5, none⟩ = some (.int .i64 1) ∧ w1.cell? ⟨bs, 6, none⟩ = some (.func (.func 40) #[] #[]) ∧ w1.cell? ⟨bl, 0, none⟩ = some (.slice (some A) (n + 1) c) ∧ w1.cell? ⟨bd, 0, none⟩ = some .nilFunc) (first | (refine ⟨?_, ?_, ?_, ?_, ?_, ?_, ?_, ?_, ?_⟩ <;> first | assumption | simpa using d0 | simpa using d1 | simpa using d2 | simpa using d3 | simpa using d4 | simpa using d5 | simpa using d6 | simpa using c2 | simpa using c1)) ((go_at_call 16; refine HC.out.mono ?_; rintro e w2 hg; obtain ⟨e0, e1, e2, e3, e4, e5, e6, e7, e8, v, rfl⟩ := hG.out e w2 hg))
      all_goals
        go_wp2_with fail
        go_ret
        exact hg
  · have hdn : Done9 a b nn eb true (.func (.func f) #[] cap) w' L' := Or.inr ⟨rfl, f, cap, rfl, hf, hdc⟩
    have hen : ∀ (args : Array Value) (w : World), (callFunc f args).run Try.prog w = .ok (.enter f args) w := hf
    have ch := Lies.head hl'
    have hG : Hid (∀ e w2, Gives (S9 a b nn eb) m q y rs L' w' e w2 → w2.cell? ⟨bs, 0, none⟩ = some (.pointer (some ⟨a, 0, none⟩)) ∧ w2.cell? ⟨bs, 1, none⟩ = some (.int .i64 0) ∧ w2.cell? ⟨bs, 2, none⟩ = some (.func (.func 40) #[] #[]) ∧ w2.cell? ⟨bs, 3, none⟩ = some (.func (.func fd) #[] cd) ∧ w2.cell? ⟨bs, 4, none⟩ = some (.pointer (some ⟨a, 0, none⟩)) ∧ w2.cell? ⟨bs, 5, none⟩ = some (.int .i64 1) ∧ w2.cell? ⟨bs, 6, none⟩ = some (.func (.func 40) #[] #[]) ∧ w2.cell? ⟨bl, 0, none⟩ = some (.slice (some A) (n + 1) c) ∧ w2.cell? ⟨bd, 0, none⟩ = some (.func (.func f) #[] cap) ∧ ∃ v, e = .returned v) := by
      rintro e w2 ⟨v, L2, rfl, hx2, _⟩
      obtain ⟨e0, e1, e2, e3, e4, e5, e6⟩ := (hs.later (hx.trans hx2)).cells
      exact ⟨e0, e1, e2, e3, e4, e5, e6, (h2.later (hx.trans hx2)).cell, (h1.later (hx.trans hx2)).cell, v, rfl⟩
    have HD : Hid (Calls Try.prog f (#[.int .i64 t] ++ cap) w'.drew fun e w2 => e = .returned (.tuple #[]) ∧ Hid (w2.cell? ⟨bs, 0, none⟩ = some (.pointer (some ⟨a, 0, none⟩)) ∧ w2.cell? ⟨bs, 1, none⟩ = some (.int .i64 0) ∧ w2.cell? ⟨bs, 2, none⟩ = some (.func (.func 40) #[] #[]) ∧ w2.cell? ⟨bs, 3, none⟩ = some (.func (.func fd) #[] cd) ∧ w2.cell? ⟨bs, 4, none⟩ = some (.pointer (some ⟨a, 0, none⟩)) ∧ w2.cell? ⟨bs, 5, none⟩ = some (.int .i64 1) ∧ w2.cell? ⟨bs, 6, none⟩ = some (.func (.func 40) #[] #[]) ∧ w2.cell? ⟨bl, 0, none⟩ = some (.slice (some A) (n + 1) c) ∧ w2.cell? ⟨bd, 0, none⟩ = some (.func (.func f) #[] cap) ∧ w2.cell? A = some (.int .i64 t) ∧
        Hid (Calls Try.prog 16 #[bx9 a b nn eb fd cd, if c = 1 then .slice (some A) 0 0 else .slice (some (A.add 1)) n (c - 1), .func (.func f) #[] cap] w2.drew (Gives (S9 a b nn eb) m q y rs L' w')))) := by
      have md := Made.drewN w' 1
      have ed := Ext.of_made (S := S9 a b nn eb) (L := L') md
      refine (hdc q w'.drew L' σ rs t ed (hv.later md) ht.1 ht.2 hroom).mono ?_
      rintro e w2 ⟨rfl, L2, hx2, hk2, hi2⟩
      have xx := ed.trans hx2
      obtain ⟨e0, e1, e2, e3, e4, e5, e6⟩ := (hs.later (hx.trans xx)).cells
      exact ⟨rfl, e0, e1, e2, e3, e4, e5, e6, (h2.later (hx.trans xx)).cell, (h1.later (hx.trans xx)).cell, Lies.head (hl'.later xx), puts_rest (m := m) (bs := bs) (bl := bl) IH hn hnc hc hl' hdn hA' hr2 xx ((hv.keeps_made md).trans hk2) hi2 (by simpa using hy2)⟩
    have hnn := neq_func
    have hsl := fun (hc1 : ¬ c = 1) w1 => run_tail A (n := n) hc1 w1
    have hn1 : c = 1 → n = 0 := fun h => by omega
    clear IH hn hnc hc hl hd hA hr h1 h2 hs hx hv hy hy2 hl' ht hr2 hA' hroom hdn hdc
    rw [Array.empty_append]
    unfold bx9 bxv at HD
    unfold bxr at HD
    go_enter Try.func51, Try.ntmps51
    go_wp2_with fail
    go_region_held3 (fun w1 => w1.cell? ⟨bl, 0, none⟩ = some (.slice (some A) (n + 1) c) ∧ w1.cell? ⟨bd, 0, none⟩ = some (.func (.func f) #[] cap) ∧ w1.cell? A = some (.int .i64 t)) (first | (refine ⟨?_, ?_, ?_⟩ <;> first | assumption | simpa using c2 | simpa using c1 | simpa using ch)) ((go_at_fn f; refine HD.out.mono ?_; rintro e w2 ⟨rfl, HD2⟩; obtain ⟨e0, e1, e2, e3, e4, e5, e6, e7, e8, e9, HC⟩ := HD2.out))
    all_goals
      clear d0 d1 d2 d3 d4 d5 d6 c1 c2 ch HD HD2
      by_cases hc1 : c = 1
      · obtain rfl := hn1 hc1
        subst hc1
        simp only [if_true] at HC
        clear hsl hn1
        go_wp2_with fail
        go_region_held3 (fun w1 => w1.cell? ⟨bs, 0, none⟩ = some (.pointer (some ⟨a, 0, none⟩)) ∧ w1.cell? ⟨bs, 1, none⟩ = some (.int .i64 0) ∧ w1.cell? ⟨bs, 2, none⟩ = some (.func (.func 40) #[] #[]) ∧ w1.cell? ⟨bs, 3, none⟩ = some (.func (.func fd) #[] cd) ∧ w1.cell? ⟨bs, 4, none⟩ = some (.pointer (some ⟨a, 0, none⟩)) ∧ w1.cell? ⟨bs, 5, none⟩ = some (.int .i64 1) ∧ w1.cell? ⟨bs, 6, none⟩ = some (.func (.func 40) #[] #[]) ∧ w1.cell? ⟨bl, 0, none⟩ = some (.slice (some A) 1 1) ∧ w1.cell? ⟨bd, 0, none⟩ = some (.func (.func f) #[] cap)) (first | (refine ⟨?_, ?_, ?_, ?_, ?_, ?_, ?_, ?_, ?_⟩ <;> first | assumption | simpa using e0 | simpa using e1 | simpa using e2 | simpa using e3 | simpa using e4 | simpa using e5 | simpa using e6 | simpa using e7 | simpa using e8)) ((go_at_call 16; refine HC.out.mono ?_; rintro e w3 hg; obtain ⟨k0, k1, k2, k3, k4, k5, k6, k7, k8, v, rfl⟩ := hG.out e w3 hg))
        all_goals
          go_wp2_with fail
          go_ret
          exact hg
      · have hsl1 := hsl hc1
        simp only [if_neg hc1] at HC
        clear hsl hn1
        go_wp2_with fail
        go_region_held3 (fun w1 => w1.cell? ⟨bs, 0, none⟩ = some (.pointer (some ⟨a, 0, none⟩)) ∧ w1.cell? ⟨bs, 1, none⟩ = some (.int .i64 0) ∧ w1.cell? ⟨bs, 2, none⟩ = some (.func (.func 40) #[] #[]) ∧ w1.cell? ⟨bs, 3, none⟩ = some (.func (.func fd) #[] cd) ∧ w1.cell? ⟨bs, 4, none⟩ = some (.pointer (some ⟨a, 0, none⟩)) ∧ w1.cell? ⟨bs, 5, none⟩ = some (.int .i64 1) ∧ w1.cell? ⟨bs, 6, none⟩ = some (.func (.func 40) #[] #[]) ∧ w1.cell? ⟨bl, 0, none⟩ = some (.slice (some A) (n + 1) c) ∧ w1.cell? ⟨bd, 0, none⟩ = some (.func (.func f) #[] cap)) (first | (refine ⟨?_, ?_, ?_, ?_, ?_, ?_, ?_, ?_, ?_⟩ <;> first | assumption | simpa using e0 | simpa using e1 | simpa using e2 | simpa using e3 | simpa using e4 | simpa using e5 | simpa using e6 | simpa using e7 | simpa using e8)) ((go_at_call 16; refine HC.out.mono ?_; rintro e w3 hg; obtain ⟨k0, k1, k2, k3, k4, k5, k6, k7, k8, v, rfl⟩ := hG.out e w3 hg))
        all_goals
          go_wp2_with fail
          go_ret
          exact hg
/-- Where puts goes on. -/
def ptW (a b : Nat) (nn : Int) (eb : Option Nat) (fd : FuncId) (cd : Array Value) (w : World) (A : Option Addr) (n c : Nat) (vd : Value) : World := ((w.alloc (.cells (bxr (S9 a b nn eb) 0 1 40 fd cd) 31)).alloc (.cells #[.slice A n c] 23)).alloc (.cells #[vd] 48)
set_option maxRecDepth 100000 in
set_option maxHeartbeats 2000000 in
theorem puts_nil {m q c : Nat} {A : Option Addr} {vd : Value} {w : World} {L : Lay} {σ : St R9} {rs : List Value} (hv : Inv (S9 a b nn eb) q σ rs L w) (hd : vd = .nilFunc ∨ ∃ f cap, vd = .func (.func f) #[] cap) :
    Calls Try.prog 16 #[bx9 a b nn eb fd cd, .slice A 0 c, vd] w (Gives (S9 a b nn eb) m q (.done, σ) rs L w) := by
  have hm : Made w (ptW a b nn eb fd cd w A 0 c vd) := (((Made.refl w).alloc (Nat.le_refl _) _).alloc (by simp only [World.size_alloc]; omega) _).alloc (by simp only [World.size_alloc]; omega) _
  have HF : Hid (Gives (S9 a b nn eb) m q (.done, σ) rs L w (.returned .nilFunc) (ptW a b nn eb fd cd w A 0 c vd)) := ⟨_, L, rfl, Ext.of_made hm, hv.keeps_made hm, hv.later hm, by cases m <;> exact Or.inl ⟨rfl, rfl⟩⟩
  clear hm hv
  unfold ptW at *
  unfold bx9 bxv at *
  unfold bxr at *
  rcases hd with rfl | ⟨f, cap, rfl⟩
  · go_enter Try.func16, Try.ntmps16
    go_wp2_with fail
    go_ret
    exact HF.out
  · go_enter Try.func16, Try.ntmps16
    go_wp2_with fail
    go_ret
    exact HF.out
set_option maxRecDepth 100000 in
set_option maxHeartbeats 4000000 in
theorem puts_walk {m q n c : Nat} {d : Bool} {t : Int} {l : List Int} {A : Addr} {vd : Value} {w : World} {L : Lay} {σ : St R9} {rs : List Value} (hv : Inv (S9 a b nn eb) q σ rs L w) (hl : w.cell? A = some (.int .i64 t)) (hA : A.block < w.heap.size) (hc : n < 9223372036854775807) (hd : vd = .nilFunc ∨ ∃ f cap, vd = .func (.func f) #[] cap)
    (h : Calls Try.prog 50 #[bx9 a b nn eb fd cd, .int .i64 t, .func (.func 51) #[] #[.pointer (some ⟨w.heap.size + 1 + 1, 0, none⟩), .pointer (some ⟨w.heap.size + 1, 0, none⟩), .pointer (some ⟨w.heap.size, 0, none⟩)]] (ptW a b nn eb fd cd w (some A) (n + 1) c vd).drew (Makes (S9 a b nn eb) m (.putL d t l) L (ptW a b nn eb fd cd w (some A) (n + 1) c vd).drew)) :
    Calls Try.prog 16 #[bx9 a b nn eb fd cd, .slice (some A) (n + 1) c, vd] w (Gives (S9 a b nn eb) m q (.putL d t l, σ) rs L w) := by
  obtain ⟨z0, b0, m0, e0⟩ := BB.step (S := S9 a b nn eb) (L := L) (hd := 0) (hq := 1) (fl := 40) (fd := fd) (cd := cd) (fun k hk => hv.mut_lt hk)
  obtain ⟨z1, b1, m1, e1⟩ := Box.step (v := .slice (some A) (n + 1) c) (ty := 23) z0
  obtain ⟨z2, b2, m2, e2⟩ := Box.step (v := vd) (ty := 48) z1
  simp only [World.size_alloc] at b1 b2
  have mm := Made.trans m0 (Made.trans m1 m2)
  have md : Made w (ptW a b nn eb fd cd w (some A) (n + 1) c vd).drew := Made.trans mm (Made.drewN _ 1)
  have ed := Ext.of_made (S := S9 a b nn eb) (L := L) (Made.drewN (ptW a b nn eb fd cd w (some A) (n + 1) c vd) 1)
  have B0 : BB9 a b nn eb fd cd (ptW a b nn eb fd cd w (some A) (n + 1) c vd) L w.heap.size := (b0.later e1).later e2
  have B1 : Box (S9 a b nn eb) (ptW a b nn eb fd cd w (some A) (n + 1) c vd) L (w.heap.size + 1) (.slice (some A) (n + 1) c) := b1.later e2
  have cA : (ptW a b nn eb fd cd w (some A) (n + 1) c vd).cell? A = some (.int .i64 t) := (World.cell?_of_block (mm.block _ hA)).trans hl
  obtain ⟨d0, d1, d2, d3, d4, d5, d6⟩ := B0.cells
  have c1 := B1.cell
  have HC : Hid (Calls Try.prog 50 #[bx9 a b nn eb fd cd, .int .i64 t, .func (.func 51) #[] #[.pointer (some ⟨w.heap.size + 1 + 1, 0, none⟩), .pointer (some ⟨w.heap.size + 1, 0, none⟩), .pointer (some ⟨w.heap.size, 0, none⟩)]] (ptW a b nn eb fd cd w (some A) (n + 1) c vd).drew fun e w2 => Hid (Gives (S9 a b nn eb) m q (.putL d t l, σ) rs L w e w2) ∧ w2.cell? ⟨w.heap.size, 0, none⟩ = some (.pointer (some ⟨a, 0, none⟩)) ∧ w2.cell? ⟨w.heap.size, 1, none⟩ = some (.int .i64 0) ∧ w2.cell? ⟨w.heap.size, 2, none⟩ = some (.func (.func 40) #[] #[]) ∧ w2.cell? ⟨w.heap.size, 3, none⟩ = some (.func (.func fd) #[] cd) ∧ w2.cell? ⟨w.heap.size, 4, none⟩ = some (.pointer (some ⟨a, 0, none⟩)) ∧ w2.cell? ⟨w.heap.size, 5, none⟩ = some (.int .i64 1) ∧ w2.cell? ⟨w.heap.size, 6, none⟩ = some (.func (.func 40) #[] #[]) ∧ w2.cell? ⟨w.heap.size + 1, 0, none⟩ = some (.slice (some A) (n + 1) c) ∧ w2.cell? A = some (.int .i64 t) ∧ ∃ v, e = .returned v) := h.mono fun e w2 hm => by
    have hg := hm.gives' md hv
    obtain ⟨v, rfl, m4, _⟩ := hm
    have e4 := ed.trans (Ext.of_made m4)
    obtain ⟨e0, e1, e2, e3, e4', e5, e6⟩ := (BB.later B0 e4).cells
    exact ⟨hg, e0, e1, e2, e3, e4', e5, e6, (Box.later B1 e4).cell, (World.cell?_of_block ((Made.trans md m4).block _ hA)).trans hl, v, rfl⟩
  have hmf : ∀ (fn : Fn) (first cap : Array Value) (w : World), (Instr.makeFunc fn first cap).run Try.prog w = .ok (.func fn first cap) w := fun _ _ _ _ => rfl
  have hge : ¬ ((n : Int) + 1 = 0) := by omega
  clear h hv hl hA z0 z1 z2 b0 b1 b2 m0 m1 m2 e0 e1 e2 mm md ed B0 B1
  have HE : Hid (((w.alloc (.cells (bxr (S9 a b nn eb) 0 1 40 fd cd) 31)).alloc (.cells #[.slice (some A) (n + 1) c] 23)).alloc (.cells #[vd] 48) = ptW a b nn eb fd cd w (some A) (n + 1) c vd) := rfl
  generalize ptW a b nn eb fd cd w (some A) (n + 1) c vd = wb at *
  unfold bx9 bxv at *
  unfold bxr at *
  rcases hd with rfl | ⟨f, cap, rfl⟩
  all_goals
    go_enter Try.func16, Try.ntmps16
    go_wp2_with fail
    rw [HE.out]
    generalize w.heap.size = g0 at *
    clear HE
    go_region_held3 (fun w1 => w1.cell? ⟨g0, 0, none⟩ = some (.pointer (some ⟨a, 0, none⟩)) ∧ w1.cell? ⟨g0, 1, none⟩ = some (.int .i64 0) ∧ w1.cell? ⟨g0, 2, none⟩ = some (.func (.func 40) #[] #[]) ∧ w1.cell? ⟨g0, 3, none⟩ = some (.func (.func fd) #[] cd) ∧ w1.cell? ⟨g0, 4, none⟩ = some (.pointer (some ⟨a, 0, none⟩)) ∧ w1.cell? ⟨g0, 5, none⟩ = some (.int .i64 1) ∧ w1.cell? ⟨g0, 6, none⟩ = some (.func (.func 40) #[] #[]) ∧ w1.cell? ⟨g0 + 1, 0, none⟩ = some (.slice (some A) (n + 1) c) ∧ w1.cell? A = some (.int .i64 t)) (first | (refine ⟨?_, ?_, ?_, ?_, ?_, ?_, ?_, ?_, ?_⟩ <;> first | assumption | simpa using d0 | simpa using d1 | simpa using d2 | simpa using d3 | simpa using d4 | simpa using d5 | simpa using d6 | simpa using c1 | simpa using cA)) ((go_at_call 50; refine HC.out.mono ?_; rintro e w4 ⟨HG4, e0, e1, e2, e3, e4, e5, e6, e7, e8, v, rfl⟩))
    all_goals
      go_wp2_with fail
      go_ret
      exact HG4.out
theorem puts_c {d : Bool} : ∀ l : List Int, Puts9 a b nn eb fd cd d l := by
  intro l
  induction l with
  | nil =>
    intro m q n c A vd w L σ rs y hv hn hnc hc hl hd hA hr hy
    obtain rfl : (K9.done, σ) = y := by simpa [puts9] using hy
    obtain rfl : n = 0 := hn.out
    refine puts_nil hv ?_
    rcases hd with ⟨_, rfl⟩ | ⟨_, f, cap, rfl, _⟩
    · exact Or.inl rfl
    · exact Or.inr ⟨f, cap, rfl⟩
  | cons t l ih =>
    intro m q n c A vd w L σ rs y hv hn hnc hc hl hd hA hr hy
    obtain rfl : (K9.putL d t l, σ) = y := by simpa [puts9] using hy
    obtain ⟨n, rfl⟩ : ∃ k, n = k + 1 := ⟨l.length, by have := hn.out; simpa using this⟩
    have hn' : Hid (n = l.length) := Lib.hid (by have := hn.out; simpa using this)
    obtain ⟨A, rfl⟩ : ∃ A', A = some A' := by
      obtain ⟨A', hA, _⟩ := hl 0 _ rfl
      exact ⟨A', hA⟩
    obtain ⟨z0, b0, m0, e0⟩ := BB.step (S := S9 a b nn eb) (L := L) (hd := 0) (hq := 1) (fl := 40) (fd := fd) (cd := cd) (fun k hk => hv.mut_lt hk)
    obtain ⟨z1, b1, m1, e1⟩ := Box.step (v := .slice (some A) (n + 1) c) (ty := 23) z0
    obtain ⟨z2, b2, m2, e2⟩ := Box.step (v := vd) (ty := 48) z1
    simp only [World.size_alloc] at b1 b2
    have mm := Made.trans m0 (Made.trans m1 m2)
    have md : Made w (ptW a b nn eb fd cd w (some A) (n + 1) c vd).drew := Made.trans mm (Made.drewN _ 1)
    have xd := Ext.of_made (S := S9 a b nn eb) (L := L) md
    have ed := Ext.of_made (S := S9 a b nn eb) (L := L) (Made.drewN (ptW a b nn eb fd cd w (some A) (n + 1) c vd) 1)
    have ht := hr t (by simp)
    have hblk : A.block < w.heap.size := by
      obtain ⟨a', ha', h1, _⟩ := hl 0 _ rfl
      obtain rfl := Option.some.inj ha'
      exact h1
    refine puts_walk hv (Lies.head hl) hblk (by omega) (by
      rcases hd with ⟨_, rfl⟩ | ⟨_, f, cap, rfl, _⟩
      · exact Or.inl rfl
      · exact Or.inr ⟨f, cap, rfl⟩) ?_
    exact Put_c (S := S9 a b nn eb) (putK9 d t l) link9 ht.1 (by omega) m _ _ L q σ rs (hv.later md) ((hA t l).later xd) (puts1_takes ih hn' (by omega) hc (hl.later xd) (hd.later xd) (hA.later xd) hr (Box.later b2 ed) (Box.later (b1.later e2) ed) (BB.later ((b0.later e1).later e2) ed))
end Go.Proofs.Ytndpkonihcebeaa.Kod.Nine
