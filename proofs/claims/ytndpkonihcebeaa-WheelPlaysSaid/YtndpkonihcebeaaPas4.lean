/- Package wheel: slots, the whole. -/
import Derived.Test.YtndpkonihcebeaaPas3
namespace Go.Proofs.Ytndpkonihcebeaa.Whl
open Go.RowKit Go.Proofs.Ytndpkonihcebeaa Go.Proofs.Ytndpkonihcebeaa.Cell Go.Proofs.Ytndpkonihcebeaa.Seq Go.Proofs.Ytndpkonihcebeaa.Num Go.Proofs.Ytndpkonihcebeaa.SetN Go.Proofs.Ytndpkonihcebeaa.Dig
set_option linter.unusedVariables false
set_option linter.unusedSimpArgs false
variable {a b B0 bl bs L S B : Nat} {Q : World → Zone → Int → Prop}

theorem Own.shape {w : World} {Z : Zone} {s : Value} {l : List Int} (h : Own B0 w Z s l) : ∃ A n c, s = .slice A n c := by
  obtain ⟨_, g | ⟨g, cap, cur, e, _⟩⟩ := h.row
  · exact ⟨none, 0, 0, g.1⟩
  · exact ⟨_, _, _, e⟩
theorem slots_nil (lv : Nat) : SlotsOK a b B0 bl bs L S B Q lv [] := by
  intro n cc f cap w Z c xs l s A hz ha hb hB0 hE hA hO hl hi hh hc hR hrc hcc hlv ht
  obtain ⟨hm, hz4, q1, q2, q3, q4⟩ := boxes4 hz (OW a bl bs L B) (OI lv) (OS (.slice A 0 cc)) (OL f cap)
  obtain ⟨w4, hw4⟩ : ∃ w4, w4 = (((w.alloc (OW a bl bs L B)).alloc (OI lv)).alloc (OS (.slice A 0 cc))).alloc (OL f cap) := ⟨_, rfl⟩
  rw [← hw4] at hm hz4 q1 q2 q3 q4
  have HW := Lib.hid hw4
  clear hw4
  have d3 := q3.cell
  have d4 := q4.cell
  have hA4 := hA.later hm
  rw [show c + ([] : List Nat).length = c by simp] at ht
  have HC : Hid (Calls Try.prog f (#[s] ++ cap) w4 (fun e w2 => EndsIn a b (n + ([] : List Nat).length) w Z c Q e w2 ∧ ∃ v, e = .returned v)) := (ht.run w4 Z s (Late.of_made hz hm) hz4 hA4 (hO.made hm)).mono fun e w2 h => ⟨h.pre (Work.of_made hz hm), h.value⟩
  obtain ⟨A1, n1, c1, rfl⟩ := hO.shape
  have hen : ∀ (args : Array Value) (w : World), (callFunc f args).run Try.prog w = .ok (.enter f args) w := ht.en
  clear hz hE hA hO hi hh hR ht hm hz4 q1 q2 q3 q4 hA4 hc
  go_enter Try.func132, Try.ntmps132
  go_wp2_with fail
  rw [← HW.out]
  refine HC.out.mono ?_
  rintro e w9 ⟨hg, v, rfl⟩
  go_wp2_with fail
  go_ret
  exact hg
set_option maxRecDepth 100000 in
set_option maxHeartbeats 4000000 in
theorem slots_cons (lv i : Nat) (r : List Nat) (IH : SlotsOK a b B0 bl bs L S B Q lv r) : SlotsOK a b B0 bl bs L S B Q lv (i :: r) := by
  intro n cc f cap w Z c xs l s A hz ha hb hB0 hE hA hO hl hi hh hc hR hrc hcc hlv ht
  have hlen : (i :: r).length = r.length + 1 := rfl
  obtain ⟨m, hmr⟩ : ∃ m, m = r.length := ⟨_, rfl⟩
  rw [hlen, ← hmr] at hrc hl
  obtain ⟨A0, rfl⟩ : ∃ A0, A = some A0 := by obtain ⟨ad, h, _⟩ := hR 0 i rfl; exact ⟨ad, h⟩
  have hi0 := hi i List.mem_cons_self
  obtain ⟨at', hat⟩ : ∃ x, x = 1 + L + lv * S + i := ⟨_, rfl⟩
  obtain ⟨first, hf, hx⟩ := hh (1 + L + lv * S + i) (by omega)
  obtain ⟨hm, hz4, q1, q2, q3, q4⟩ := boxes4 hz (OW a bl bs L B) (OI lv) (OS (.slice (some A0) (m + 1) cc)) (OL f cap)
  obtain ⟨w4, hw4⟩ : ∃ w4, w4 = (((w.alloc (OW a bl bs L B)).alloc (OI lv)).alloc (OS (.slice (some A0) (m + 1) cc))).alloc (OL f cap) := ⟨_, rfl⟩
  rw [← hw4] at hm hz4 q1 q2 q3 q4
  have HW := Lib.hid hw4
  clear hw4
  obtain ⟨c0, c1, c2, c3, c4, c5, c6⟩ := wv_cells q1
  have d2 := q2.cell
  have d3 := q3.cell
  have d4 := q4.cell
  have hd : Made w4 w4.drew := Made.drewN w4 1
  have hwd : Made w w4.drew := Made.trans hm hd
  have hR4 := hR.later (Ext.of_made hm)
  obtain ⟨r0, r1, r2, r3⟩ := hR4.head
  have hEd := hE.later (Ext.of_made hwd)
  have hzd := hz.later hwd.size
  have HSL := Lib.hid (Slot_w hEd lv i (by have := hE.l5; omega) (by have := hE.s2; omega))
  rw [← hat] at HSL hx hi0
  have p1 := q1.later (Ext.of_made hd)
  have p2 := q2.later (Ext.of_made hd)
  have p3 := q3.later (Ext.of_made hd)
  have p4 := q4.later (Ext.of_made hd)
  have hRd := hR4.later (Ext.of_made hd)
  have hcl : c + ((m + 1 : Nat) : Int) < 4611686018427387904 := by rw [hmr]; exact hc
  have e1 : takeX ((i :: r).map fun i => 1 + L + lv * S + i) xs = takeX (r.map fun i => 1 + L + lv * S + i) (xs.set at' 0) := by rw [hat]; rfl
  have e2 : takeL ((i :: r).map fun i => 1 + L + lv * S + i) xs l = takeL (r.map fun i => 1 + L + lv * S + i) (xs.set at' 0) (if first = 0 then l else l ++ [(first : Int) - 1]) := by
    show takeL (r.map fun i => 1 + L + lv * S + i) (xs.set (1 + L + lv * S + i) 0) (if xs.getD (1 + L + lv * S + i) 0 = 0 then l else l ++ [xs.getD (1 + L + lv * S + i) 0 - 1]) = _
    rw [← hat, hx]
    by_cases h0 : first = 0
    · rw [if_pos (by omega), if_pos h0]
    · rw [if_neg (by omega), if_neg h0]
  have e3 : c + ((i :: r).length : Int) = c + 1 + (r.length : Int) := by rw [hlen]; push_cast; omega
  rw [e1, e2, e3] at ht
  have hl2 : (if first = 0 then l else l ++ [(first : Int) - 1]).length ≤ l.length + 1 := by split <;> simp
  have HO : Hid (Calls Try.prog 128 #[.agg (WV a bl bs L B), .int .i64 (at' : Int), s, .func (.func 149) #[] #[.pointer (some ⟨w.heap.size, 0, none⟩), .pointer (some ⟨w.heap.size + 1, 0, none⟩), .pointer (some ⟨w.heap.size + 1 + 1, 0, none⟩), .pointer (some ⟨w.heap.size + 1 + 1 + 1, 0, none⟩)]] w4.drew (fun e w2 => EndsIn a b (n + (i :: r).length) w Z c Q e w2 ∧ (w2.cell? ⟨w.heap.size, 0, none⟩ = some (.pointer (some ⟨a, 0, none⟩)) ∧ w2.cell? ⟨w.heap.size, 1, none⟩ = some (.int .i64 (L : Int)) ∧ w2.cell? ⟨w.heap.size, 2, none⟩ = some (.int .i64 (B : Int)) ∧ w2.cell? ⟨w.heap.size, 3, none⟩ = some (.int .i64 0) ∧ w2.cell? ⟨w.heap.size, 4, none⟩ = some (.func (.func 59) #[] #[]) ∧ w2.cell? ⟨w.heap.size, 5, none⟩ = some (.func (.func 60) #[] #[.pointer (some ⟨bl, 0, none⟩), .pointer (some ⟨bs, 0, none⟩)]) ∧ w2.cell? ⟨w.heap.size, 6, none⟩ = some (.func (.func 61) #[] #[.pointer (some ⟨bl, 0, none⟩), .pointer (some ⟨bs, 0, none⟩)]) ∧ w2.cell? ⟨w.heap.size + 1, 0, none⟩ = some (.int .i64 (lv : Int)) ∧ w2.cell? ⟨w.heap.size + 1 + 1, 0, none⟩ = some (.slice (some A0) (m + 1) cc) ∧ w2.cell? ⟨w.heap.size + 1 + 1 + 1, 0, none⟩ = some (.func (.func f) #[] cap) ∧ w2.cell? A0 = some (.int .i64 (i : Int))) ∧ ∃ v, e = .returned v)) := by
    refine (off_w (Q := Q) (n := n + r.length) (first := first) hzd ha hb (Nat.le_trans hB0 hwd.size) (hA.later hwd) (hO.made hwd) (by omega) hi0.2 hx hf (by omega) ?_).mono ?_
    · refine ⟨enters_of Try.func149 (by kernel_rfl) rfl, fun w' Z' s' hla hz' hA' hO' => ?_⟩
      have g1 := p1.later hla.ext
      have g2 := p2.later hla.ext
      have g3 := p3.later hla.ext
      have g4 := p4.later hla.ext
      have hd' : Made w' w'.drew := Made.drewN w' 1
      have hR' := ((hRd.later hla.ext).later (Ext.of_made hd')).tail
      have ht' := ((ht.later (Late.of_made hz hwd)).later hla).later (Late.of_made hz' hd')
      refine slots1_w (m := m) (cc := cc) hz' hO'.shape hrc hcc g1 g2 g3 g4 ?_
      have hzz := hz'.later hd'.size
      have hEE := (hEd.later hla.ext).later (Ext.of_made hd')
      have hAA := hA'.later hd'
      have hOO := hO'.made hd'
      have hBB : B0 ≤ w'.drew.heap.size := by
        have := hla.ext.size; have := hwd.size; have := hd'.size; omega
      have hii : ∀ j ∈ r, j < S ∧ 1 + L + lv * S + j < (xs.set at' 0).length := fun j hj => by rw [List.length_set]; exact hi j (List.mem_cons_of_mem _ hj)
      have hcc3 : c + 1 + (r.length : Int) < 4611686018427387904 := by rw [← hmr]; push_cast at hcl; omega
      by_cases hc1 : cc = 1
      · rw [if_pos hc1]
        have hm0 : m = 0 := by omega
        have hr0 : r = [] := List.length_eq_zero_iff.1 (by omega)
        have hh0 := IH (n := n) (cc := 0) (A := some A0) hzz ha hb hBB hEE hAA hOO (by omega) hii (hh.zero at') hcc3 (by rw [hr0]; intro j x hj; simp at hj) (by omega) (by omega) hlv ht'
        rw [← hmr, hm0] at hh0 ⊢
        exact hh0
      · rw [if_neg hc1]
        have hh0 := IH (n := n) (cc := cc - 1) (A := some (A0.add 1)) hzz ha hb hBB hEE hAA hOO (by omega) hii (hh.zero at') hcc3 hR' (by omega) (by omega) hlv ht'
        rw [← hmr] at hh0 ⊢
        exact hh0
    · intro e w2 he
      have he' := he.pre (Work.of_made hz hwd)
      obtain ⟨Z2, g1⟩ := blk_ends p1 he
      obtain ⟨k0, k1, k2, k3, k4, k5, k6⟩ := wv_cells g1
      have hRe : w2.cell? A0 = some (.int .i64 (i : Int)) := by
        obtain ⟨_, Z'', _, hwk, _⟩ := he
        exact ((hRd.later hwk.ext).head).1
      exact ⟨he', ⟨k0, k1, k2, k3, k4, k5, k6, p2.ends he, p3.ends he, p4.ends he, hRe⟩, he'.value⟩
  have hmf := makeFunc_run
  obtain ⟨As, ns, cs, rfl⟩ := hO.shape
  have hm1 : m + 1 ≤ 9223372036854775807 := by omega
  rw [hlen, ← hmr] at HO ⊢
  clear IH hz ha hb hB0 hE hA hO hl hi hh hc hR hi0 hf hx hm hz4 q1 q2 q3 q4 hd hwd hR4 r1 r2 r3 hEd hzd p1 p2 p3 p4 hRd hcl e1 e2 e3 ht hl2 hlen hat hmr
  go_enter Try.func132, Try.ntmps132
  go_wp2_with fail
  rw [← HW.out]
  go_region_held3 (fun w2 => w2.cell? ⟨w.heap.size, 0, none⟩ = some (.pointer (some ⟨a, 0, none⟩)) ∧ w2.cell? ⟨w.heap.size, 1, none⟩ = some (.int .i64 (L : Int)) ∧ w2.cell? ⟨w.heap.size, 2, none⟩ = some (.int .i64 (B : Int)) ∧ w2.cell? ⟨w.heap.size, 3, none⟩ = some (.int .i64 0) ∧ w2.cell? ⟨w.heap.size, 4, none⟩ = some (.func (.func 59) #[] #[]) ∧ w2.cell? ⟨w.heap.size, 5, none⟩ = some (.func (.func 60) #[] #[.pointer (some ⟨bl, 0, none⟩), .pointer (some ⟨bs, 0, none⟩)]) ∧ w2.cell? ⟨w.heap.size, 6, none⟩ = some (.func (.func 61) #[] #[.pointer (some ⟨bl, 0, none⟩), .pointer (some ⟨bs, 0, none⟩)]) ∧ w2.cell? ⟨w.heap.size + 1, 0, none⟩ = some (.int .i64 (lv : Int)) ∧ w2.cell? ⟨w.heap.size + 1 + 1, 0, none⟩ = some (.slice (some A0) (m + 1) cc) ∧ w2.cell? ⟨w.heap.size + 1 + 1 + 1, 0, none⟩ = some (.func (.func f) #[] cap) ∧ w2.cell? A0 = some (.int .i64 (i : Int))) (first | assumption | (refine ⟨?_, ?_, ?_, ?_, ?_, ?_, ?_, ?_, ?_, ?_, ?_⟩ <;> first | assumption | simpa using c0 | simpa using c1 | simpa using c2 | simpa using c3 | simpa using c4 | simpa using c5 | simpa using c6 | simpa using d2 | simpa using d3 | simpa using d4 | simpa using r0)) (first | (go_at_call 60; refine HSL.out.mono ?_; rintro e w' ⟨rfl, rfl⟩) | (go_at_call 128; refine HO.out.mono ?_; rintro e w3 ⟨he, hk, v, rfl⟩))
  all_goals
    go_wp2_with fail
    go_ret
    exact he
theorem slots_w (lv : Nat) : ∀ r : List Nat, SlotsOK a b B0 bl bs L S B Q lv r
  | [] => slots_nil lv
  | i :: r => slots_cons lv i r (slots_w lv r)
end Go.Proofs.Ytndpkonihcebeaa.Whl
