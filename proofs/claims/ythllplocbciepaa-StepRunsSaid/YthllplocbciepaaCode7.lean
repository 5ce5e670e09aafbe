/- The code of acts (knelllaw07.code), in plain words. -/
import Derived.Test.YthllplocbciepaaCod6
import Derived.Test.YthllplocbciepaaOpenA
namespace Go.Proofs.Ythllplocbciepaa.Cod.Seven
open Go.RowKit Go.Proofs.Ythllplocbciepaa Go.Proofs.Ythllplocbciepaa.Cell
set_option linter.unusedVariables false
set_option linter.unusedSimpArgs false

/-- The sums, and what lies elsewhere and stays. -/
structure R7 where
  sums : List Int
  kept : List (Nat × Obj)
/-- What code still has to do: acts, and which sum is added to. -/
abbrev K7 := Nat × List Acc
/-- What is told is added up. -/
def tell (σ : St R7) (i : Nat) (v : Int) : St R7 := { σ with r := { σ.r with sums := σ.r.sums.set i ((σ.r.sums.getD i 0 * 3 + v) % 18446744073709551616) } }
/-- One act. -/
def act (x : Acc) (i : Nat) (σ : St R7) : St R7 :=
  if x.kind = 0 then tell (σ.ld x.i).2 i (σ.ld x.i).1
  else if x.kind = 1 then tell (σ.sto x.i x.v) i 0
  else if x.kind = 2 then tell (σ.swp x.i x.v).2 i (σ.swp x.i x.v).1
  else if x.kind = 3 then tell (σ.cas x.i x.old x.v).2 i (if (σ.cas x.i x.old x.v).1 then 1 else 0)
  else σ
/-- How the rest lies: the sums in a block, and what stays. -/
structure J7 (sb ns : Nat) (r : R7) (own : Nat → Prop) (w : World) : Prop where
  mine : own sb
  row : w.heap[sb]? = some (.cells (row r.sums) 22 (0, 0))
  len : r.sums.length = ns
  wide : ∀ x ∈ r.sums, 0 ≤ x ∧ x < 18446744073709551616
  kept : ∀ p ∈ r.kept, own p.1 ∧ p.1 ≠ sb ∧ w.heap[p.1]? = some p.2
/-- The system of layer 7's laws. -/
def S7 (a b sb ns : Nat) : Sys where
  R := R7
  K := K7
  nil := fun k => k.2.isEmpty
  next := fun k σ => match k with
    | (i, []) => ((i, []), σ)
    | (i, x :: l) => ((i, l), act x i σ)
  a := a
  b := b
  J := J7 sb ns
  stable := fun r own w w' h j => ⟨j.mine, (h sb j.mine).trans j.row, j.len, j.wide, fun p hp => ⟨(j.kept p hp).1, (j.kept p hp).2.1, (h p.1 (j.kept p hp).1).trans (j.kept p hp).2.2⟩⟩

variable {a b sb ns : Nat}
/-- The sums' block is written. -/
theorem tell_inv {n : Nat} {σ : St R7} {rs : List Value} {L : Lay} {w : World} (h : Inv (S7 a b sb ns) n σ rs L w) {i : Nat} (hi : i < ns) (v : Int) :
    Inv (S7 a b sb ns) n (tell σ i v) rs L (w.setCell ⟨sb, i, none⟩ (.int .u64 ((σ.r.sums.getD i 0 * 3 + v) % 18446744073709551616))) ∧ Ext (S7 a b sb ns) w L (w.setCell ⟨sb, i, none⟩ (.int .u64 ((σ.r.sums.getD i 0 * 3 + v) % 18446744073709551616))) L ∧ Keeps w L (w.setCell ⟨sb, i, none⟩ (.int .u64 ((σ.r.sums.getD i 0 * 3 + v) % 18446744073709551616))) L := by
  have hJ : J7 sb ns σ.r L.own w := h.rest
  have ho := h.owna sb hJ.mine
  generalize hy : (σ.r.sums.getD i 0 * 3 + v) % 18446744073709551616 = y
  have hyw : 0 ≤ y ∧ y < 18446744073709551616 := by omega
  have o1 : ∀ k : Nat, k ≠ sb → (w.setCell ⟨sb, i, none⟩ (.int .u64 y)).heap[k]? = w.heap[k]? := fun k hk => Cell.heap_setCell_other _ _ _ _ _ hk
  have sz : (w.setCell ⟨sb, i, none⟩ (.int .u64 y)).heap.size = w.heap.size := by simp [World.setCell]
  refine ⟨⟨arena_same h.ar (o1 _ (fun e => ho.1 e.symm)) (o1 _ (fun e => ho.2.1 e.symm)), h.fuel, h.wide, h.len, h.nts, h.nst, fun j t u s h1 h2 h3 => (o1 t (fun e => (h.tsa t (List.mem_of_getElem? h1)).2.2 (e ▸ hJ.mine))).trans (h.task j t u s h1 h2 h3), h.few, h.once, h.tsa,
    fun k hk => ⟨(h.owna k hk).1, (h.owna k hk).2.1, by rw [sz]; exact (h.owna k hk).2.2⟩, ?_, fun k hk => ⟨(h.scra k hk).1, (h.scra k hk).2.1, (h.scra k hk).2.2.1, (h.scra k hk).2.2.2.1, by rw [sz]; exact (h.scra k hk).2.2.2.2⟩⟩,
    ⟨rfl, rfl, rfl, by omega, fun k hk hn => ⟨hn, o1 k (fun e => hn (Or.inr (Or.inr (Or.inr (Or.inl (e ▸ hJ.mine))))))⟩⟩, ⟨rfl, rfl, fun k hk => o1 k (fun e => (h.scra k hk).2.2.2.1 (e ▸ hJ.mine))⟩⟩
  refine ⟨hJ.mine, ?_, ?_, ?_, fun p hp => ⟨(hJ.kept p hp).1, (hJ.kept p hp).2.1, (o1 _ (hJ.kept p hp).2.1).trans (hJ.kept p hp).2.2⟩⟩
  · rw [setCell_eq_setRow _ _ _ _ _ _ _ hJ.row, heap_setRow_same _ _ _ _ _ _ hJ.row, row_put]
    simp only [tell, hy]
  · simp only [tell, List.length_set]; exact hJ.len
  · simp only [tell]
    rw [hy]
    exact mem_set_wide hJ.wide hyw _
/-- A sum's cell. -/
theorem sum_cell {n : Nat} {σ : St R7} {rs : List Value} {L : Lay} {w : World} (h : Inv (S7 a b sb ns) n σ rs L w) {i : Nat} (hi : i < ns) : w.cell? ⟨sb, i, none⟩ = some (.int .u64 (σ.r.sums.getD i 0)) ∧ w.frozen? ⟨sb, i, none⟩ = false := by
  have hJ : J7 sb ns σ.r L.own w := h.rest
  have hl : i < σ.r.sums.length := by rw [hJ.len]; exact hi
  refine ⟨?_, frozen_of_row _ _ _ _ _ hJ.row⟩
  rw [cell_of_row _ _ _ _ _ _ hJ.row, List.getD_eq_getElem?_getD, List.getElem?_eq_getElem hl]
  exact row_at' hl

set_option maxRecDepth 100000 in
set_option maxHeartbeats 1000000 in
theorem told_takes {m i : Nat} {l : List Acc} {v : Int} {w : World} {L : Lay} {b1 b2 : Nat} {rest : Value} (hi : i < ns) (hr : Takes (S7 a b sb ns) m #[] (fun σ => ((i, l), σ)) rest w L)
    (h1 : Box (S7 a b sb ns) w L b1 (.pointer (some ⟨sb, i, none⟩))) (h2 : Box (S7 a b sb ns) w L b2 rest) :
    Takes (S7 a b sb ns) m #[.int .u64 v] (fun σ => ((i, l), tell σ i v)) (.func (.func 67) #[] #[.pointer (some ⟨b1, 0, none⟩), .pointer (some ⟨b2, 0, none⟩)]) w L := by
  refine ⟨_, _, rfl, enters_of Try.func67 (by kernel_rfl) rfl, fun n w' L' σ rs hx hv => ?_⟩
  obtain ⟨f, cap, rfl, hf, hc⟩ := hr.later hx
  have b1' := h1.later hx
  have b2' := h2.later hx
  have c1 := b1'.cell
  have c2 := b2'.cell
  obtain ⟨c3, z3⟩ := sum_cell hv hi
  obtain ⟨hti, htx, htk⟩ := tell_inv hv hi v
  generalize hq : σ.r.sums.getD i 0 = q at *
  have HQ := Lib.hid hq
  have HW : Hid (IntKind.u64.wrap (IntKind.u64.wrap (q * 3) + v) = (q * 3 + v) % 18446744073709551616) := by show _ = _; simp only [IntKind.wrap_u64]; omega
  have x2 := htx.trans (Ext.of_made (Made.drewN _ 1))
  have i2 := hti.later (Made.drewN _ 1)
  have HC : Hid (Calls Try.prog f cap ((w'.setCell ⟨sb, i, none⟩ (.int .u64 ((q * 3 + v) % 18446744073709551616))).drewN 1) (Gives (S7 a b sb ns) m n ((i, l), tell σ i v) rs L' w')) := by
    have h := hc n _ L' _ rs x2 i2
    rw [Array.empty_append] at h
    exact h.mono fun e w2 hg => hg.ext x2 (htk.trans (hti.keeps_made (Made.drewN _ 1)))
  have HB : Hid (((w'.setCell ⟨sb, i, none⟩ (.int .u64 ((q * 3 + v) % 18446744073709551616))).drewN 1).cell? ⟨b2, 0, none⟩ = some (.func (.func f) #[] cap)) := (b2'.later x2).cell
  have hen : ∀ (args : Array Value) (w : World), (callFunc f args).run Try.prog w = .ok (.enter f args) w := hf
  clear hq hti htx htk x2 i2 hc hv hx b1' b2' h1 h2 hr
  go_enter Try.func67, Try.ntmps67
  go_wp2_with fail
  go_region
  rw [HW.out]
  have HCC : Hid (Calls Try.prog f cap ((w'.setCell ⟨sb, i, none⟩ (.int .u64 ((q * 3 + v) % 18446744073709551616))).drew) (Gives (S7 a b sb ns) m n ((i, l), tell σ i v) rs L' w')) := HC.out
  have c4 : ((w'.setCell ⟨sb, i, none⟩ (.int .u64 ((q * 3 + v) % 18446744073709551616))).drew).cell? ⟨b2, 0, none⟩ = some (.func (.func f) #[] cap) := HB.out
  clear HC HB c3 z3 c2 c1 HW
  generalize (w'.setCell ⟨sb, i, none⟩ (.int .u64 ((q * 3 + v) % 18446744073709551616))).drew = w2 at *
  go_wp2_with fail
  refine HCC.out.mono ?_
  rintro e w3 hg
  obtain ⟨v3, L3, rfl, hrest⟩ := hg
  have HF : Hid (Gives (S7 a b sb ns) m n ((i, l), tell σ i v) rs L' w' (.returned v3) w3) := ⟨v3, L3, rfl, hrest⟩
  clear hrest HCC
  go_wp2_with fail
  go_ret
  exact HF.out

/-- What code of acts gives. -/
def CodeC (a b sb ns : Nat) (l : List Acc) : Prop := ∀ (m i B : Nat) (w : World) (L : Lay) (A : Option Addr) (n c : Nat), Hid (n = l.length) → n ≤ c → c ≤ 9223372036854775807 → i < ns → (∀ k, Mut (S7 a b sb ns) L k → k < w.heap.size) → Old (S7 a b sb ns) B w L → RdA w B A l → (∀ z ∈ l, z.Wf) →
  Calls Try.prog 38 #[.pointer (some ⟨a, 0, none⟩), .slice A n c, .pointer (some ⟨sb, i, none⟩)] w (Makes (S7 a b sb ns) m (i, l) L w)
theorem acts_under : Try.prog.underlying 56 = some (.slice 119) := by kernel_rfl
theorem acts_size : (Try.prog.info? 119).map (·.size) = some 4 := by kernel_rfl
theorem run_tail (A : Addr) {n c : Nat} (hc1 : ¬ c = 1) (w : World) : (Instr.sliceAt 56 (.slice (some A) (n + 1) c) (some (.int .i64 1)) none none).run Try.prog w = .ok (.slice (some (A.add 4)) n (c - 1)) w := by
  obtain ⟨inf, hi, hs⟩ := Option.map_eq_some_iff.1 acts_size
  have h1 : (sizeOf 119).run Try.prog w = .ok 4 w := by simp [sizeOf, typeInfo, hi, hs]
  have h2 := run_sliceBound (P := Try.prog) w .i64 1 (n + 1) .sliceB (by omega) (by omega)
  simp [Instr.sliceAt, run_underlying acts_under, Instr.slice, Instr.sliceBounds, h1, h2, hc1]
theorem RdA.tail {w : World} {B : Nat} {A : Addr} {x : Acc} {l : List Acc} (h : RdA w B (some A) (x :: l)) : RdA w B (some (A.add 4)) l := fun j hj => by
  obtain ⟨a, ha, h1, c0, c1, c2, c3⟩ := h (j + 1) (by simp; omega)
  obtain rfl := Option.some.inj ha
  have e : (A.add 4).add (j * 4) = A.add ((j + 1) * 4) := by rw [Go.Deep.add_add]; congr 1; omega
  refine ⟨_, rfl, by rw [add_block]; exact h1, ?_, ?_, ?_, ?_⟩
  all_goals
    rw [e]
    simpa using (by assumption)
set_option maxRecDepth 100000 in
set_option maxHeartbeats 1000000 in
theorem rest_takes {m i B n c : Nat} {x : Acc} {l : List Acc} {w : World} {L : Lay} {b1 b2 b3 : Nat} {A : Addr} (IH : CodeC a b sb ns l) (hn : Hid (n = l.length)) (hnc : n + 1 ≤ c) (hc : c ≤ 9223372036854775807) (hi : i < ns) (ho : Old (S7 a b sb ns) B w L) (hl : RdA w B (some A) (x :: l)) (hwf : ∀ z ∈ l, z.Wf)
    (h1 : Box (S7 a b sb ns) w L b1 (.pointer (some ⟨a, 0, none⟩))) (h2 : Box (S7 a b sb ns) w L b2 (.slice (some A) (n + 1) c)) (h3 : Box (S7 a b sb ns) w L b3 (.pointer (some ⟨sb, i, none⟩))) :
    Takes (S7 a b sb ns) m #[] (fun σ => ((i, l), σ)) (.func (.func 66) #[] #[.pointer (some ⟨b1, 0, none⟩), .pointer (some ⟨b2, 0, none⟩), .pointer (some ⟨b3, 0, none⟩)]) w L := by
  refine ⟨_, _, rfl, enters_of Try.func66 (by kernel_rfl) rfl, fun q w' L' σ rs hx hv => ?_⟩
  have b1' := h1.later hx
  have b2' := h2.later hx
  have b3' := h3.later hx
  have c1 := b1'.cell
  have c2 := b2'.cell
  have c3 := b3'.cell
  have hB := ho.below hx
  have ho' := (ho.later hx).later (Ext.of_made (Made.drewN w' 1))
  have hl' := (hl.later hB)
  have HMk : Hid (∀ e w2, Makes (S7 a b sb ns) m (i, l) L' w'.drew e w2 → Gives (S7 a b sb ns) m q ((i, l), σ) rs L' w' e w2 ∧ w2.cell? ⟨b1, 0, none⟩ = some (.pointer (some ⟨a, 0, none⟩)) ∧ w2.cell? ⟨b2, 0, none⟩ = some (.slice (some A) (n + 1) c) ∧ w2.cell? ⟨b3, 0, none⟩ = some (.pointer (some ⟨sb, i, none⟩)) ∧ ∃ v, e = .returned v) := by
    rintro e w2 ⟨v, rfl, hmd, hr⟩
    have hm2 : Made w' w2 := Made.trans (Made.drewN w' 1) hmd
    exact ⟨⟨v, L', rfl, Ext.of_made hm2, hv.keeps_made hm2, hv.later hm2, hr⟩, (b1'.later (Ext.of_made hm2)).cell, (b2'.later (Ext.of_made hm2)).cell, (b3'.later (Ext.of_made hm2)).cell, v, rfl⟩
  have hLt : ∀ k, Mut (S7 a b sb ns) L' k → k < w'.drew.heap.size := fun k hk => hv.mut_lt hk
  rw [Array.empty_append]
  by_cases hc1 : c = 1
  · subst hc1
    have hn0 : l = [] := by have := hn.out; exact List.length_eq_zero_iff.1 (by omega)
    obtain rfl : n = 0 := by omega
    have HC : Hid (Calls Try.prog 38 #[.pointer (some ⟨a, 0, none⟩), .slice (some A) 0 0, .pointer (some ⟨sb, i, none⟩)] w'.drew (Makes (S7 a b sb ns) m (i, l) L' w'.drew)) :=
      IH m i B w'.drew L' (some A) 0 0 hn (by omega) (by omega) hi hLt ho' (by rw [hn0]; exact RdA.nil _ _ _) hwf
    clear hn0
    have HMk1 : Hid (∀ e w2, Makes (S7 a b sb ns) m (i, l) L' w'.drew e w2 → Gives (S7 a b sb ns) m q ((i, l), σ) rs L' w' e w2 ∧ w2.cell? ⟨b1, 0, none⟩ = some (.pointer (some ⟨a, 0, none⟩)) ∧ w2.cell? ⟨b2, 0, none⟩ = some (.slice (some A) 1 1) ∧ w2.cell? ⟨b3, 0, none⟩ = some (.pointer (some ⟨sb, i, none⟩)) ∧ ∃ v, e = .returned v) := HMk.out
    have c2' : w'.cell? ⟨b2, 0, none⟩ = some (.slice (some A) 1 1) := c2
    clear HMk c2
    have HMk := HMk1
    have c2 := c2'
    clear HMk1 c2'
    clear hx ho hl hl' ho' hB h1 h2 h3 b1' b2' b3' hv hLt IH
    go_enter Try.func66, Try.ntmps66
    go_wp2_with fail
    go_region_held3 (fun w1 => w1.cell? ⟨b1, 0, none⟩ = some (.pointer (some ⟨a, 0, none⟩)) ∧ w1.cell? ⟨b2, 0, none⟩ = some (.slice (some A) 1 1) ∧ w1.cell? ⟨b3, 0, none⟩ = some (.pointer (some ⟨sb, i, none⟩))) (first | (refine ⟨?_, ?_, ?_⟩ <;> first | assumption | simpa using c1 | simpa using c2 | simpa using c3)) ((go_at_call 38; refine HC.out.mono ?_; rintro e w2 hmk; obtain ⟨hg, d1, d2, d3, v, rfl⟩ := HMk.out e w2 hmk))
    go_wp2_with fail
    go_ret
    exact hg
  · have HC : Hid (Calls Try.prog 38 #[.pointer (some ⟨a, 0, none⟩), .slice (some (A.add 4)) n (c - 1), .pointer (some ⟨sb, i, none⟩)] w'.drew (Makes (S7 a b sb ns) m (i, l) L' w'.drew)) :=
      IH m i B w'.drew L' (some (A.add 4)) n (c - 1) hn (by omega) (by omega) hi hLt ho' (RdA.tail hl') hwf
    have hsl := fun w1 => run_tail A (n := n) hc1 w1
    clear hx ho hl hl' ho' hB h1 h2 h3 b1' b2' b3' hv hLt IH
    go_enter Try.func66, Try.ntmps66
    go_wp2_with fail
    go_region_held3 (fun w1 => w1.cell? ⟨b1, 0, none⟩ = some (.pointer (some ⟨a, 0, none⟩)) ∧ w1.cell? ⟨b2, 0, none⟩ = some (.slice (some A) (n + 1) c) ∧ w1.cell? ⟨b3, 0, none⟩ = some (.pointer (some ⟨sb, i, none⟩))) (first | (refine ⟨?_, ?_, ?_⟩ <;> first | assumption | simpa using c1 | simpa using c2 | simpa using c3)) ((go_at_call 38; refine HC.out.mono ?_; rintro e w2 hmk; obtain ⟨hg, d1, d2, d3, v, rfl⟩ := HMk.out e w2 hmk))
    go_wp2_with fail
    go_ret
    exact hg
end Go.Proofs.Ythllplocbciepaa.Cod.Seven
