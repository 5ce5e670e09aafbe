/- Work that is cut into steps: the makers of steps, in plain words. -/
import Derived.Test.YthllplocbciepaaCod2
import Derived.Deep.RegionHeld3
namespace Go.Proofs.Ythllplocbciepaa.Cod
open Go.RowKit Go.Proofs.Ythllplocbciepaa Go.Proofs.Ythllplocbciepaa.Cell
set_option linter.unusedVariables false
set_option linter.unusedSimpArgs false
variable {S : Sys}

set_option maxRecDepth 100000 in
set_option maxHeartbeats 400000 in
theorem Idle_rep {m : Nat} {k : S.K} {G : St S.R → S.K × St S.R} {vt : Value} {w : World} {L : Lay} {b1 : Nat} (hk : S.nil k = false) (hn : ∀ σ, S.next k σ = G σ)
    (ht : Takes S m #[] G vt w L) (h1 : Box S w L b1 vt) : Rep S (m + 1) k (.func (.func 91) #[] #[.pointer (some ⟨b1, 0, none⟩)]) w L := by
  refine Or.inr ⟨hk, _, _, rfl, enters_of Try.func91 (by kernel_rfl) rfl, fun n w' L' σ rs hx hi => ?_⟩
  obtain ⟨f, cap, rfl, hf, hc⟩ := ht.later hx
  have c1 := (h1.later hx).cell
  have HC : Hid (Calls Try.prog f cap w' (Gives S m n (G σ) rs L' w')) := by have h := hc n w' L' σ rs (Ext.refl _ _) (hi.lower (by omega)); rw [Array.empty_append] at h; exact h
  have HN := Lib.hid (hn σ)
  have hen : ∀ (args : Array Value) (w : World), (callFunc f args).run Try.prog w = .ok (.enter f args) w := hf
  clear ht h1 hc hn hi hx
  go_enter Try.func91, Try.ntmps91
  go_wp2_with fail
  refine HC.out.mono ?_
  rintro e w2 hg
  obtain ⟨v, L2, rfl, hx2, ht2, hi2, hr2⟩ := hg
  have HF : Hid (GivesTo S (Rep S m) n (S.next k σ) rs L' w' (.returned v) w2) := by show GivesTo _ _ _ _ _ _ _ _ _; rw [HN.out]; exact ⟨v, L2, rfl, hx2, ht2, hi2, hr2⟩
  clear hx2 ht2 hi2 hr2 HC HN
  go_wp2_with fail
  go_ret
  exact HF.out

/-- The facts of a step that touches the arena, and goes on with what takes the value. -/
theorem after_access {m n : Nat} {x : S.K × St S.R} {σ' : St S.R} {rs : List Value} {L : Lay} {w w1 w2 : World} {args : Array Value} {G : St S.R → S.K × St S.R} {f : FuncId} {cap : Array Value}
    (hc : ∀ n w' L' σ rs, Ext S w L w' L' → Inv S n σ rs L' w' → Calls Try.prog f (args ++ cap) w' (Gives S m n (G σ) rs L' w')) (hm : Made w w1) (hi : Inv S n σ' rs L w2) (ht : Turned S.a S.b w1 w2) (hx : x = G σ') {n0 : Nat} {σ0 : St S.R} (h0 : Inv S n0 σ0 rs L w) :
    Calls Try.prog f (args ++ cap) w2 (Gives S m n x rs L w) := by
  have e : Ext S w L w2 L := (Ext.of_made hm).trans (Ext.of_turned ht)
  rw [hx]
  exact (hc n w2 L σ' rs e hi).mono fun en w3 h => h.ext e ((h0.keeps_made hm).trans ((h0.later hm).keeps_turned ht))

theorem Box.turned {w w1 w2 : World} {L : Lay} {b : Nat} {v : Value} (h : Box S w L b v) (hm : Made w w1) (ht : Turned S.a S.b w1 w2) : w2.cell? ⟨b, 0, none⟩ = some v :=
  (h.later ((Ext.of_made hm).trans (Ext.of_turned ht))).cell
theorem Box.given {m n : Nat} {x : S.K × St S.R} {rs : List Value} {w w1 : World} {L : Lay} {b : Nat} {v : Value} {e : Ending} (h : Box S w L b v) (hg : Gives S m n x rs L w e w1) : w1.cell? ⟨b, 0, none⟩ = some v := by
  obtain ⟨_, _, _, hx, _⟩ := hg
  exact (h.later hx).cell
theorem Box.new {w : World} {L : Lay} {v : Value} {t : TypeId} {b : Nat} (hL : ∀ k, Mut S L k → k < w.heap.size) (hb : b = w.heap.size) : Box S (w.alloc (.cells #[v] t)) L b v := by
  subst hb
  exact ⟨by simp only [World.size_alloc]; omega, fun e => by have := hL _ e; omega, by rw [cell_of_row _ _ _ _ _ _ (heap_alloc_new _ _)]; rfl⟩
theorem ld_wide {n : Nat} {σ : St S.R} {rs : List Value} {L : Lay} {w : World} (h : Inv S n σ rs L w) (i : Int) : 0 ≤ (σ.ld i).1 ∧ (σ.ld i).1 < 18446744073709551616 := by
  unfold St.ld
  split
  · exact h.wide _ (List.getElem_mem _)
  · exact ⟨by simp, by simp⟩
theorem swp_wide {n : Nat} {σ : St S.R} {rs : List Value} {L : Lay} {w : World} (h : Inv S n σ rs L w) (i : Int) {v : Int} : 0 ≤ (σ.swp i v).1 ∧ (σ.swp i v).1 < 18446744073709551616 := ld_wide h i

set_option maxRecDepth 100000 in
set_option maxHeartbeats 1000000 in
theorem Load_rep {m : Nat} {k : S.K} {i : Int} {G : Int → St S.R → S.K × St S.R} {vt : Value} {w : World} {L : Lay} {b1 b2 b3 : Nat}  (hk : S.nil k = false) (hn : ∀ σ, S.next k σ = G (σ.ld i).1 (σ.ld i).2)
    (ht : ∀ x, 0 ≤ x → x < 18446744073709551616 → Takes S m #[.int .u64 x] (G x) vt w L) (h1 : Box S w L b1 (vt)) (h2 : Box S w L b2 (.pointer (some ⟨S.a, 0, none⟩))) (h3 : Box S w L b3 (.int .i64 i)) :
    Rep S (m + 1) k (.func (.func 83) #[] #[.pointer (some ⟨b1, 0, none⟩), .pointer (some ⟨b2, 0, none⟩), .pointer (some ⟨b3, 0, none⟩)]) w L := by
  refine Or.inr ⟨hk, _, _, rfl, enters_of Try.func83 (by kernel_rfl) rfl, fun n w' L' σ rs hx hi => ?_⟩
  obtain ⟨f, cap, rfl, hf, hc⟩ := (ht (σ.ld i).1 (ld_wide hi i).1 (ld_wide hi i).2).later hx
  have b1' := h1.later hx
  have c1 := b1'.cell
  have b2' := h2.later hx
  have c2 := b2'.cell
  have b3' := h3.later hx
  have c3 := b3'.cell
  have HL : Hid (Calls Try.prog 65 #[.pointer (some ⟨S.a, 0, none⟩), .int .i64 i] w'.drew fun e w2 => e = .returned (.int .u64 (σ.ld i).1) ∧ Hid (Calls Try.prog f (#[.int .u64 (σ.ld i).1] ++ cap) w2 (Gives S m n (S.next k σ) rs L' w')) ∧ w2.cell? ⟨b1, 0, none⟩ = some (.func (.func f) #[] cap) ∧ w2.cell? ⟨b2, 0, none⟩ = some (.pointer (some ⟨S.a, 0, none⟩)) ∧ w2.cell? ⟨b3, 0, none⟩ = some (.int .i64 i)) :=
    (Ld_c (hi.later (Made.drewN w' 1)) i).mono fun e w2 ⟨he, h4, h5⟩ => ⟨he, after_access hc (Made.drewN w' 1) h4 h5 (hn σ) hi, b1'.turned (Made.drewN w' 1) h5, b2'.turned (Made.drewN w' 1) h5, b3'.turned (Made.drewN w' 1) h5⟩
  have hen : ∀ (args : Array Value) (w : World), (callFunc f args).run Try.prog w = .ok (.enter f args) w := hf
  have HG : Hid (∀ e w2, Gives S m n (S.next k σ) rs L' w' e w2 → w2.cell? ⟨b1, 0, none⟩ = some (.func (.func f) #[] cap) ∧ w2.cell? ⟨b2, 0, none⟩ = some (.pointer (some ⟨S.a, 0, none⟩)) ∧ w2.cell? ⟨b3, 0, none⟩ = some (.int .i64 i) ∧ ∃ v, e = .returned v) :=
    fun e w2 h => ⟨b1'.given h, b2'.given h, b3'.given h, h.elim fun v ⟨_, h, _⟩ => ⟨v, h⟩⟩
  generalize (σ.ld i).1 = x at *
  clear ht h1 h2 h3 hc hn hi hx b1' b2' b3'
  go_enter Try.func83, Try.ntmps83
  go_wp2_with fail
  go_region_held3 (fun w1 => w1.cell? ⟨b1, 0, none⟩ = some (.func (.func f) #[] cap) ∧ w1.cell? ⟨b2, 0, none⟩ = some (.pointer (some ⟨S.a, 0, none⟩)) ∧ w1.cell? ⟨b3, 0, none⟩ = some (.int .i64 i)) (first | (refine ⟨?_, ?_, ?_⟩ <;> first | assumption | simpa using c1 | simpa using c2 | simpa using c3)) (first | (go_at_call 65; refine HL.out.mono ?_; rintro e w2 ⟨rfl, HC2, d1, d2, d3⟩) | (refine HC2.out.mono ?_; rintro e w3 hg; obtain ⟨e1, e2, e3, v, rfl⟩ := HG.out _ _ hg))
  go_wp2_with fail
  go_ret
  exact hg
set_option maxRecDepth 100000 in
set_option maxHeartbeats 1000000 in
theorem Store_rep {m : Nat} {k : S.K} {i v : Int} {G : St S.R → S.K × St S.R} {vt : Value} {w : World} {L : Lay} {b1 b2 b3 b4 : Nat} (hv : 0 ≤ v ∧ v < 18446744073709551616) (hk : S.nil k = false) (hn : ∀ σ, S.next k σ = G (σ.sto i v))
    (ht : Takes S m #[] G vt w L) (h1 : Box S w L b1 (.pointer (some ⟨S.a, 0, none⟩))) (h2 : Box S w L b2 (.int .i64 i)) (h3 : Box S w L b3 (.int .u64 v)) (h4 : Box S w L b4 (vt)) :
    Rep S (m + 1) k (.func (.func 84) #[] #[.pointer (some ⟨b1, 0, none⟩), .pointer (some ⟨b2, 0, none⟩), .pointer (some ⟨b3, 0, none⟩), .pointer (some ⟨b4, 0, none⟩)]) w L := by
  refine Or.inr ⟨hk, _, _, rfl, enters_of Try.func84 (by kernel_rfl) rfl, fun n w' L' σ rs hx hi => ?_⟩
  obtain ⟨f, cap, rfl, hf, hc⟩ := ht.later hx
  have b1' := h1.later hx
  have c1 := b1'.cell
  have b2' := h2.later hx
  have c2 := b2'.cell
  have b3' := h3.later hx
  have c3 := b3'.cell
  have b4' := h4.later hx
  have c4 := b4'.cell
  have HL : Hid (Calls Try.prog 85 #[.pointer (some ⟨S.a, 0, none⟩), .int .i64 i, .int .u64 v] w' fun e w2 => (∃ b, e = .returned (.bool b)) ∧ Hid (Calls Try.prog f cap w2 (Gives S m n (S.next k σ) rs L' w')) ∧ w2.cell? ⟨b1, 0, none⟩ = some (.pointer (some ⟨S.a, 0, none⟩)) ∧ w2.cell? ⟨b2, 0, none⟩ = some (.int .i64 i) ∧ w2.cell? ⟨b3, 0, none⟩ = some (.int .u64 v) ∧ w2.cell? ⟨b4, 0, none⟩ = some (.func (.func f) #[] cap)) :=
    (Sto_c (hi.later (Made.refl w')) i v hv).mono fun e w2 ⟨he, h4, h5⟩ => ⟨he, (by have := after_access hc (Made.refl w') h4 h5 (hn σ) hi; rw [Array.empty_append] at this; exact this), b1'.turned (Made.refl w') h5, b2'.turned (Made.refl w') h5, b3'.turned (Made.refl w') h5, b4'.turned (Made.refl w') h5⟩
  have hen : ∀ (args : Array Value) (w : World), (callFunc f args).run Try.prog w = .ok (.enter f args) w := hf
  have HG : Hid (∀ e w2, Gives S m n (S.next k σ) rs L' w' e w2 → w2.cell? ⟨b1, 0, none⟩ = some (.pointer (some ⟨S.a, 0, none⟩)) ∧ w2.cell? ⟨b2, 0, none⟩ = some (.int .i64 i) ∧ w2.cell? ⟨b3, 0, none⟩ = some (.int .u64 v) ∧ w2.cell? ⟨b4, 0, none⟩ = some (.func (.func f) #[] cap) ∧ ∃ v, e = .returned v) :=
    fun e w2 h => ⟨b1'.given h, b2'.given h, b3'.given h, b4'.given h, h.elim fun v ⟨_, h, _⟩ => ⟨v, h⟩⟩
  clear ht h1 h2 h3 h4 hc hn hi hx b1' b2' b3' b4'
  go_enter Try.func84, Try.ntmps84
  go_wp2_with fail
  refine HL.out.mono ?_
  rintro e w2 ⟨⟨b, rfl⟩, HC2, d1, d2, d3, d4⟩
  go_wp2_with fail
  refine HC2.out.mono ?_
  rintro e w3 hg
  obtain ⟨e1, e2, e3, e4, v, rfl⟩ := HG.out _ _ hg
  go_wp2_with fail
  go_ret
  exact hg
set_option maxRecDepth 100000 in
set_option maxHeartbeats 1000000 in
theorem Swap_rep {m : Nat} {k : S.K} {i v : Int} {G : Int → St S.R → S.K × St S.R} {vt : Value} {w : World} {L : Lay} {b1 b2 b3 b4 : Nat} (hv : 0 ≤ v ∧ v < 18446744073709551616) (hk : S.nil k = false) (hn : ∀ σ, S.next k σ = G (σ.swp i v).1 (σ.swp i v).2)
    (ht : ∀ x, 0 ≤ x → x < 18446744073709551616 → Takes S m #[.int .u64 x] (G x) vt w L) (h1 : Box S w L b1 (vt)) (h2 : Box S w L b2 (.pointer (some ⟨S.a, 0, none⟩))) (h3 : Box S w L b3 (.int .i64 i)) (h4 : Box S w L b4 (.int .u64 v)) :
    Rep S (m + 1) k (.func (.func 87) #[] #[.pointer (some ⟨b1, 0, none⟩), .pointer (some ⟨b2, 0, none⟩), .pointer (some ⟨b3, 0, none⟩), .pointer (some ⟨b4, 0, none⟩)]) w L := by
  refine Or.inr ⟨hk, _, _, rfl, enters_of Try.func87 (by kernel_rfl) rfl, fun n w' L' σ rs hx hi => ?_⟩
  obtain ⟨f, cap, rfl, hf, hc⟩ := (ht (σ.swp i v).1 (swp_wide hi i).1 (swp_wide hi i).2).later hx
  have b1' := h1.later hx
  have c1 := b1'.cell
  have b2' := h2.later hx
  have c2 := b2'.cell
  have b3' := h3.later hx
  have c3 := b3'.cell
  have b4' := h4.later hx
  have c4 := b4'.cell
  have HL : Hid (Calls Try.prog 88 #[.pointer (some ⟨S.a, 0, none⟩), .int .i64 i, .int .u64 v] w'.drew fun e w2 => e = .returned (.int .u64 (σ.swp i v).1) ∧ Hid (Calls Try.prog f (#[.int .u64 (σ.swp i v).1] ++ cap) w2 (Gives S m n (S.next k σ) rs L' w')) ∧ w2.cell? ⟨b1, 0, none⟩ = some (.func (.func f) #[] cap) ∧ w2.cell? ⟨b2, 0, none⟩ = some (.pointer (some ⟨S.a, 0, none⟩)) ∧ w2.cell? ⟨b3, 0, none⟩ = some (.int .i64 i) ∧ w2.cell? ⟨b4, 0, none⟩ = some (.int .u64 v)) :=
    (Swp_c (hi.later (Made.drewN w' 1)) i v hv).mono fun e w2 ⟨he, h4, h5⟩ => ⟨he, after_access hc (Made.drewN w' 1) h4 h5 (hn σ) hi, b1'.turned (Made.drewN w' 1) h5, b2'.turned (Made.drewN w' 1) h5, b3'.turned (Made.drewN w' 1) h5, b4'.turned (Made.drewN w' 1) h5⟩
  have hen : ∀ (args : Array Value) (w : World), (callFunc f args).run Try.prog w = .ok (.enter f args) w := hf
  have HG : Hid (∀ e w2, Gives S m n (S.next k σ) rs L' w' e w2 → w2.cell? ⟨b1, 0, none⟩ = some (.func (.func f) #[] cap) ∧ w2.cell? ⟨b2, 0, none⟩ = some (.pointer (some ⟨S.a, 0, none⟩)) ∧ w2.cell? ⟨b3, 0, none⟩ = some (.int .i64 i) ∧ w2.cell? ⟨b4, 0, none⟩ = some (.int .u64 v) ∧ ∃ v, e = .returned v) :=
    fun e w2 h => ⟨b1'.given h, b2'.given h, b3'.given h, b4'.given h, h.elim fun v ⟨_, h, _⟩ => ⟨v, h⟩⟩
  generalize (σ.swp i v).1 = x at *
  clear ht h1 h2 h3 h4 hc hn hi hx b1' b2' b3' b4'
  go_enter Try.func87, Try.ntmps87
  go_wp2_with fail
  go_region_held3 (fun w1 => w1.cell? ⟨b1, 0, none⟩ = some (.func (.func f) #[] cap) ∧ w1.cell? ⟨b2, 0, none⟩ = some (.pointer (some ⟨S.a, 0, none⟩)) ∧ w1.cell? ⟨b3, 0, none⟩ = some (.int .i64 i) ∧ w1.cell? ⟨b4, 0, none⟩ = some (.int .u64 v)) (first | (refine ⟨?_, ?_, ?_, ?_⟩ <;> first | assumption | simpa using c1 | simpa using c2 | simpa using c3 | simpa using c4)) (first | (go_at_call 88; refine HL.out.mono ?_; rintro e w2 ⟨rfl, HC2, d1, d2, d3, d4⟩) | (refine HC2.out.mono ?_; rintro e w3 hg; obtain ⟨e1, e2, e3, e4, v, rfl⟩ := HG.out _ _ hg))
  go_wp2_with fail
  go_ret
  exact hg
set_option maxRecDepth 100000 in
set_option maxHeartbeats 1000000 in
theorem Cas_rep {m : Nat} {k : S.K} {i old v : Int} {G : Bool → St S.R → S.K × St S.R} {vt : Value} {w : World} {L : Lay} {b1 b2 b3 b4 b5 : Nat} (hv : 0 ≤ v ∧ v < 18446744073709551616) (hk : S.nil k = false) (hn : ∀ σ, S.next k σ = G (σ.cas i old v).1 (σ.cas i old v).2)
    (ht : ∀ x, Takes S m #[.bool x] (G x) vt w L) (h1 : Box S w L b1 (vt)) (h2 : Box S w L b2 (.pointer (some ⟨S.a, 0, none⟩))) (h3 : Box S w L b3 (.int .i64 i)) (h4 : Box S w L b4 (.int .u64 old)) (h5 : Box S w L b5 (.int .u64 v)) :
    Rep S (m + 1) k (.func (.func 89) #[] #[.pointer (some ⟨b1, 0, none⟩), .pointer (some ⟨b2, 0, none⟩), .pointer (some ⟨b3, 0, none⟩), .pointer (some ⟨b4, 0, none⟩), .pointer (some ⟨b5, 0, none⟩)]) w L := by
  refine Or.inr ⟨hk, _, _, rfl, enters_of Try.func89 (by kernel_rfl) rfl, fun n w' L' σ rs hx hi => ?_⟩
  obtain ⟨f, cap, rfl, hf, hc⟩ := (ht (σ.cas i old v).1).later hx
  have b1' := h1.later hx
  have c1 := b1'.cell
  have b2' := h2.later hx
  have c2 := b2'.cell
  have b3' := h3.later hx
  have c3 := b3'.cell
  have b4' := h4.later hx
  have c4 := b4'.cell
  have b5' := h5.later hx
  have c5 := b5'.cell
  have HL : Hid (Calls Try.prog 90 #[.pointer (some ⟨S.a, 0, none⟩), .int .i64 i, .int .u64 old, .int .u64 v] w'.drew fun e w2 => e = .returned (.bool (σ.cas i old v).1) ∧ Hid (Calls Try.prog f (#[.bool (σ.cas i old v).1] ++ cap) w2 (Gives S m n (S.next k σ) rs L' w')) ∧ w2.cell? ⟨b1, 0, none⟩ = some (.func (.func f) #[] cap) ∧ w2.cell? ⟨b2, 0, none⟩ = some (.pointer (some ⟨S.a, 0, none⟩)) ∧ w2.cell? ⟨b3, 0, none⟩ = some (.int .i64 i) ∧ w2.cell? ⟨b4, 0, none⟩ = some (.int .u64 old) ∧ w2.cell? ⟨b5, 0, none⟩ = some (.int .u64 v)) :=
    (Cas_c (hi.later (Made.drewN w' 1)) i old v hv).mono fun e w2 ⟨he, h4, h5⟩ => ⟨he, after_access hc (Made.drewN w' 1) h4 h5 (hn σ) hi, b1'.turned (Made.drewN w' 1) h5, b2'.turned (Made.drewN w' 1) h5, b3'.turned (Made.drewN w' 1) h5, b4'.turned (Made.drewN w' 1) h5, b5'.turned (Made.drewN w' 1) h5⟩
  have hen : ∀ (args : Array Value) (w : World), (callFunc f args).run Try.prog w = .ok (.enter f args) w := hf
  have HG : Hid (∀ e w2, Gives S m n (S.next k σ) rs L' w' e w2 → w2.cell? ⟨b1, 0, none⟩ = some (.func (.func f) #[] cap) ∧ w2.cell? ⟨b2, 0, none⟩ = some (.pointer (some ⟨S.a, 0, none⟩)) ∧ w2.cell? ⟨b3, 0, none⟩ = some (.int .i64 i) ∧ w2.cell? ⟨b4, 0, none⟩ = some (.int .u64 old) ∧ w2.cell? ⟨b5, 0, none⟩ = some (.int .u64 v) ∧ ∃ v, e = .returned v) :=
    fun e w2 h => ⟨b1'.given h, b2'.given h, b3'.given h, b4'.given h, b5'.given h, h.elim fun v ⟨_, h, _⟩ => ⟨v, h⟩⟩
  generalize (σ.cas i old v).1 = x at *
  clear ht h1 h2 h3 h4 h5 hc hn hi hx b1' b2' b3' b4' b5'
  go_enter Try.func89, Try.ntmps89
  go_wp2_with fail
  go_region_held3 (fun w1 => w1.cell? ⟨b1, 0, none⟩ = some (.func (.func f) #[] cap) ∧ w1.cell? ⟨b2, 0, none⟩ = some (.pointer (some ⟨S.a, 0, none⟩)) ∧ w1.cell? ⟨b3, 0, none⟩ = some (.int .i64 i) ∧ w1.cell? ⟨b4, 0, none⟩ = some (.int .u64 old) ∧ w1.cell? ⟨b5, 0, none⟩ = some (.int .u64 v)) (first | (refine ⟨?_, ?_, ?_, ?_, ?_⟩ <;> first | assumption | simpa using c1 | simpa using c2 | simpa using c3 | simpa using c4 | simpa using c5)) (first | (go_at_call 90; refine HL.out.mono ?_; rintro e w2 ⟨rfl, HC2, d1, d2, d3, d4, d5⟩) | (refine HC2.out.mono ?_; rintro e w3 hg; obtain ⟨e1, e2, e3, e4, e5, v, rfl⟩ := HG.out _ _ hg))
  go_wp2_with fail
  go_ret
  exact hg
/-- What a maker of code gives: a value that is code in this state. -/
def Makes (S : Sys) (m : Nat) (k : S.K) (L : Lay) (w : World) (e : Ending) (w' : World) : Prop := ∃ v, e = .returned v ∧ Made w w' ∧ Rep S m k v w' L
set_option maxRecDepth 100000 in
set_option maxHeartbeats 1000000 in
theorem Load_mk {m : Nat} {k : S.K} {i : Int} {G : Int → St S.R → S.K × St S.R} {vt : Value} {w : World} {L : Lay}  (hL : ∀ k, Mut S L k → k < w.heap.size) (hk : S.nil k = false) (hn : ∀ σ, S.next k σ = G (σ.ld i).1 (σ.ld i).2)
    (ht : ∀ x, 0 ≤ x → x < 18446744073709551616 → Takes S m #[.int .u64 x] (G x) vt w L) :
    Calls Try.prog 61 #[.pointer (some ⟨S.a, 0, none⟩), .int .i64 i, vt] w (Makes S (m + 1) k L w) := by
  obtain ⟨f, cap, rfl⟩ : ∃ f cap, vt = .func (.func f) #[] cap := by obtain ⟨f, cap, h, _⟩ := ht 0 (by omega) (by omega); exact ⟨f, cap, h⟩
  have HR : Hid (Made w (((w.alloc (.cells #[.pointer (some ⟨S.a, 0, none⟩)] 50)).alloc (.cells #[.int .i64 i] 3)).alloc (.cells #[(.func (.func f) #[] cap)] 106)) ∧ Rep S (m + 1) k (.func (.func 83) #[] #[.pointer (some ⟨w.heap.size + 1 + 1, 0, none⟩), .pointer (some ⟨w.heap.size, 0, none⟩), .pointer (some ⟨w.heap.size + 1, 0, none⟩)]) (((w.alloc (.cells #[.pointer (some ⟨S.a, 0, none⟩)] 50)).alloc (.cells #[.int .i64 i] 3)).alloc (.cells #[(.func (.func f) #[] cap)] 106)) L) := by
    have m0 : Made w (w.alloc (.cells #[.pointer (some ⟨S.a, 0, none⟩)] 50)) := (Made.refl _).alloc (Nat.le_refl _) _
    have m1 : Made (w.alloc (.cells #[.pointer (some ⟨S.a, 0, none⟩)] 50)) ((w.alloc (.cells #[.pointer (some ⟨S.a, 0, none⟩)] 50)).alloc (.cells #[.int .i64 i] 3)) := (Made.refl _).alloc (Nat.le_refl _) _
    have m2 : Made ((w.alloc (.cells #[.pointer (some ⟨S.a, 0, none⟩)] 50)).alloc (.cells #[.int .i64 i] 3)) (((w.alloc (.cells #[.pointer (some ⟨S.a, 0, none⟩)] 50)).alloc (.cells #[.int .i64 i] 3)).alloc (.cells #[(.func (.func f) #[] cap)] 106)) := (Made.refl _).alloc (Nat.le_refl _) _
    have q0 : Box S (w.alloc (.cells #[.pointer (some ⟨S.a, 0, none⟩)] 50)) L (w.heap.size) _ := Box.new (fun k hk => by have := hL k hk; first | omega | (simp only [World.size_alloc]; omega)) (by first | rfl | simp only [World.size_alloc])
    have q1 : Box S ((w.alloc (.cells #[.pointer (some ⟨S.a, 0, none⟩)] 50)).alloc (.cells #[.int .i64 i] 3)) L (w.heap.size + 1) _ := Box.new (fun k hk => by have := hL k hk; first | omega | (simp only [World.size_alloc]; omega)) (by first | rfl | simp only [World.size_alloc])
    have q2 : Box S (((w.alloc (.cells #[.pointer (some ⟨S.a, 0, none⟩)] 50)).alloc (.cells #[.int .i64 i] 3)).alloc (.cells #[(.func (.func f) #[] cap)] 106)) L (w.heap.size + 1 + 1) _ := Box.new (fun k hk => by have := hL k hk; first | omega | (simp only [World.size_alloc]; omega)) (by first | rfl | simp only [World.size_alloc])
    have q0 := q0.later (Ext.of_made m1)
    have q0 := q0.later (Ext.of_made m2)
    have q1 := q1.later (Ext.of_made m2)
    have hm : Made w (((w.alloc (.cells #[.pointer (some ⟨S.a, 0, none⟩)] 50)).alloc (.cells #[.int .i64 i] 3)).alloc (.cells #[(.func (.func f) #[] cap)] 106)) := Made.trans (Made.trans (m0) m1) m2
    exact ⟨hm, Load_rep  hk hn (fun x u1 u2 => (ht x u1 u2).later (Ext.of_made hm)) q2 q0 q1⟩
  have hmf : ∀ (fn : Fn) (first cap : Array Value) (w : World), (Instr.makeFunc fn first cap).run Try.prog w = .ok (.func fn first cap) w := fun _ _ _ _ => rfl
  clear ht hn hL
  go_enter Try.func61, Try.ntmps61
  go_wp2_with fail
  go_ret
  exact ⟨_, rfl, HR.out.1, HR.out.2⟩
set_option maxRecDepth 100000 in
set_option maxHeartbeats 1000000 in
theorem Store_mk {m : Nat} {k : S.K} {i v : Int} {G : St S.R → S.K × St S.R} {vt : Value} {w : World} {L : Lay} (hv : 0 ≤ v ∧ v < 18446744073709551616) (hL : ∀ k, Mut S L k → k < w.heap.size) (hk : S.nil k = false) (hn : ∀ σ, S.next k σ = G (σ.sto i v))
    (ht : Takes S m #[] G vt w L) :
    Calls Try.prog 63 #[.pointer (some ⟨S.a, 0, none⟩), .int .i64 i, .int .u64 v, vt] w (Makes S (m + 1) k L w) := by
  obtain ⟨f, cap, rfl⟩ : ∃ f cap, vt = .func (.func f) #[] cap := by obtain ⟨f, cap, h, _⟩ := ht; exact ⟨f, cap, h⟩
  have HR : Hid (Made w ((((w.alloc (.cells #[.pointer (some ⟨S.a, 0, none⟩)] 50)).alloc (.cells #[.int .i64 i] 3)).alloc (.cells #[.int .u64 v] 22)).alloc (.cells #[(.func (.func f) #[] cap)] 59)) ∧ Rep S (m + 1) k (.func (.func 84) #[] #[.pointer (some ⟨w.heap.size, 0, none⟩), .pointer (some ⟨w.heap.size + 1, 0, none⟩), .pointer (some ⟨w.heap.size + 1 + 1, 0, none⟩), .pointer (some ⟨w.heap.size + 1 + 1 + 1, 0, none⟩)]) ((((w.alloc (.cells #[.pointer (some ⟨S.a, 0, none⟩)] 50)).alloc (.cells #[.int .i64 i] 3)).alloc (.cells #[.int .u64 v] 22)).alloc (.cells #[(.func (.func f) #[] cap)] 59)) L) := by
    have m0 : Made w (w.alloc (.cells #[.pointer (some ⟨S.a, 0, none⟩)] 50)) := (Made.refl _).alloc (Nat.le_refl _) _
    have m1 : Made (w.alloc (.cells #[.pointer (some ⟨S.a, 0, none⟩)] 50)) ((w.alloc (.cells #[.pointer (some ⟨S.a, 0, none⟩)] 50)).alloc (.cells #[.int .i64 i] 3)) := (Made.refl _).alloc (Nat.le_refl _) _
    have m2 : Made ((w.alloc (.cells #[.pointer (some ⟨S.a, 0, none⟩)] 50)).alloc (.cells #[.int .i64 i] 3)) (((w.alloc (.cells #[.pointer (some ⟨S.a, 0, none⟩)] 50)).alloc (.cells #[.int .i64 i] 3)).alloc (.cells #[.int .u64 v] 22)) := (Made.refl _).alloc (Nat.le_refl _) _
    have m3 : Made (((w.alloc (.cells #[.pointer (some ⟨S.a, 0, none⟩)] 50)).alloc (.cells #[.int .i64 i] 3)).alloc (.cells #[.int .u64 v] 22)) ((((w.alloc (.cells #[.pointer (some ⟨S.a, 0, none⟩)] 50)).alloc (.cells #[.int .i64 i] 3)).alloc (.cells #[.int .u64 v] 22)).alloc (.cells #[(.func (.func f) #[] cap)] 59)) := (Made.refl _).alloc (Nat.le_refl _) _
    have q0 : Box S (w.alloc (.cells #[.pointer (some ⟨S.a, 0, none⟩)] 50)) L (w.heap.size) _ := Box.new (fun k hk => by have := hL k hk; first | omega | (simp only [World.size_alloc]; omega)) (by first | rfl | simp only [World.size_alloc])
    have q1 : Box S ((w.alloc (.cells #[.pointer (some ⟨S.a, 0, none⟩)] 50)).alloc (.cells #[.int .i64 i] 3)) L (w.heap.size + 1) _ := Box.new (fun k hk => by have := hL k hk; first | omega | (simp only [World.size_alloc]; omega)) (by first | rfl | simp only [World.size_alloc])
    have q2 : Box S (((w.alloc (.cells #[.pointer (some ⟨S.a, 0, none⟩)] 50)).alloc (.cells #[.int .i64 i] 3)).alloc (.cells #[.int .u64 v] 22)) L (w.heap.size + 1 + 1) _ := Box.new (fun k hk => by have := hL k hk; first | omega | (simp only [World.size_alloc]; omega)) (by first | rfl | simp only [World.size_alloc])
    have q3 : Box S ((((w.alloc (.cells #[.pointer (some ⟨S.a, 0, none⟩)] 50)).alloc (.cells #[.int .i64 i] 3)).alloc (.cells #[.int .u64 v] 22)).alloc (.cells #[(.func (.func f) #[] cap)] 59)) L (w.heap.size + 1 + 1 + 1) _ := Box.new (fun k hk => by have := hL k hk; first | omega | (simp only [World.size_alloc]; omega)) (by first | rfl | simp only [World.size_alloc])
    have q0 := q0.later (Ext.of_made m1)
    have q0 := q0.later (Ext.of_made m2)
    have q0 := q0.later (Ext.of_made m3)
    have q1 := q1.later (Ext.of_made m2)
    have q1 := q1.later (Ext.of_made m3)
    have q2 := q2.later (Ext.of_made m3)
    have hm : Made w ((((w.alloc (.cells #[.pointer (some ⟨S.a, 0, none⟩)] 50)).alloc (.cells #[.int .i64 i] 3)).alloc (.cells #[.int .u64 v] 22)).alloc (.cells #[(.func (.func f) #[] cap)] 59)) := Made.trans (Made.trans (Made.trans (m0) m1) m2) m3
    exact ⟨hm, Store_rep hv hk hn (ht.later (Ext.of_made hm)) q0 q1 q2 q3⟩
  have hmf : ∀ (fn : Fn) (first cap : Array Value) (w : World), (Instr.makeFunc fn first cap).run Try.prog w = .ok (.func fn first cap) w := fun _ _ _ _ => rfl
  clear ht hn hL
  go_enter Try.func63, Try.ntmps63
  go_wp2_with fail
  go_ret
  exact ⟨_, rfl, HR.out.1, HR.out.2⟩
set_option maxRecDepth 100000 in
set_option maxHeartbeats 1000000 in
theorem Swap_mk {m : Nat} {k : S.K} {i v : Int} {G : Int → St S.R → S.K × St S.R} {vt : Value} {w : World} {L : Lay} (hv : 0 ≤ v ∧ v < 18446744073709551616) (hL : ∀ k, Mut S L k → k < w.heap.size) (hk : S.nil k = false) (hn : ∀ σ, S.next k σ = G (σ.swp i v).1 (σ.swp i v).2)
    (ht : ∀ x, 0 ≤ x → x < 18446744073709551616 → Takes S m #[.int .u64 x] (G x) vt w L) :
    Calls Try.prog 69 #[.pointer (some ⟨S.a, 0, none⟩), .int .i64 i, .int .u64 v, vt] w (Makes S (m + 1) k L w) := by
  obtain ⟨f, cap, rfl⟩ : ∃ f cap, vt = .func (.func f) #[] cap := by obtain ⟨f, cap, h, _⟩ := ht 0 (by omega) (by omega); exact ⟨f, cap, h⟩
  have HR : Hid (Made w ((((w.alloc (.cells #[.pointer (some ⟨S.a, 0, none⟩)] 50)).alloc (.cells #[.int .i64 i] 3)).alloc (.cells #[.int .u64 v] 22)).alloc (.cells #[(.func (.func f) #[] cap)] 106)) ∧ Rep S (m + 1) k (.func (.func 87) #[] #[.pointer (some ⟨w.heap.size + 1 + 1 + 1, 0, none⟩), .pointer (some ⟨w.heap.size, 0, none⟩), .pointer (some ⟨w.heap.size + 1, 0, none⟩), .pointer (some ⟨w.heap.size + 1 + 1, 0, none⟩)]) ((((w.alloc (.cells #[.pointer (some ⟨S.a, 0, none⟩)] 50)).alloc (.cells #[.int .i64 i] 3)).alloc (.cells #[.int .u64 v] 22)).alloc (.cells #[(.func (.func f) #[] cap)] 106)) L) := by
    have m0 : Made w (w.alloc (.cells #[.pointer (some ⟨S.a, 0, none⟩)] 50)) := (Made.refl _).alloc (Nat.le_refl _) _
    have m1 : Made (w.alloc (.cells #[.pointer (some ⟨S.a, 0, none⟩)] 50)) ((w.alloc (.cells #[.pointer (some ⟨S.a, 0, none⟩)] 50)).alloc (.cells #[.int .i64 i] 3)) := (Made.refl _).alloc (Nat.le_refl _) _
    have m2 : Made ((w.alloc (.cells #[.pointer (some ⟨S.a, 0, none⟩)] 50)).alloc (.cells #[.int .i64 i] 3)) (((w.alloc (.cells #[.pointer (some ⟨S.a, 0, none⟩)] 50)).alloc (.cells #[.int .i64 i] 3)).alloc (.cells #[.int .u64 v] 22)) := (Made.refl _).alloc (Nat.le_refl _) _
    have m3 : Made (((w.alloc (.cells #[.pointer (some ⟨S.a, 0, none⟩)] 50)).alloc (.cells #[.int .i64 i] 3)).alloc (.cells #[.int .u64 v] 22)) ((((w.alloc (.cells #[.pointer (some ⟨S.a, 0, none⟩)] 50)).alloc (.cells #[.int .i64 i] 3)).alloc (.cells #[.int .u64 v] 22)).alloc (.cells #[(.func (.func f) #[] cap)] 106)) := (Made.refl _).alloc (Nat.le_refl _) _
    have q0 : Box S (w.alloc (.cells #[.pointer (some ⟨S.a, 0, none⟩)] 50)) L (w.heap.size) _ := Box.new (fun k hk => by have := hL k hk; first | omega | (simp only [World.size_alloc]; omega)) (by first | rfl | simp only [World.size_alloc])
    have q1 : Box S ((w.alloc (.cells #[.pointer (some ⟨S.a, 0, none⟩)] 50)).alloc (.cells #[.int .i64 i] 3)) L (w.heap.size + 1) _ := Box.new (fun k hk => by have := hL k hk; first | omega | (simp only [World.size_alloc]; omega)) (by first | rfl | simp only [World.size_alloc])
    have q2 : Box S (((w.alloc (.cells #[.pointer (some ⟨S.a, 0, none⟩)] 50)).alloc (.cells #[.int .i64 i] 3)).alloc (.cells #[.int .u64 v] 22)) L (w.heap.size + 1 + 1) _ := Box.new (fun k hk => by have := hL k hk; first | omega | (simp only [World.size_alloc]; omega)) (by first | rfl | simp only [World.size_alloc])
    have q3 : Box S ((((w.alloc (.cells #[.pointer (some ⟨S.a, 0, none⟩)] 50)).alloc (.cells #[.int .i64 i] 3)).alloc (.cells #[.int .u64 v] 22)).alloc (.cells #[(.func (.func f) #[] cap)] 106)) L (w.heap.size + 1 + 1 + 1) _ := Box.new (fun k hk => by have := hL k hk; first | omega | (simp only [World.size_alloc]; omega)) (by first | rfl | simp only [World.size_alloc])
    have q0 := q0.later (Ext.of_made m1)
    have q0 := q0.later (Ext.of_made m2)
    have q0 := q0.later (Ext.of_made m3)
    have q1 := q1.later (Ext.of_made m2)
    have q1 := q1.later (Ext.of_made m3)
    have q2 := q2.later (Ext.of_made m3)
    have hm : Made w ((((w.alloc (.cells #[.pointer (some ⟨S.a, 0, none⟩)] 50)).alloc (.cells #[.int .i64 i] 3)).alloc (.cells #[.int .u64 v] 22)).alloc (.cells #[(.func (.func f) #[] cap)] 106)) := Made.trans (Made.trans (Made.trans (m0) m1) m2) m3
    exact ⟨hm, Swap_rep hv hk hn (fun x u1 u2 => (ht x u1 u2).later (Ext.of_made hm)) q3 q0 q1 q2⟩
  have hmf : ∀ (fn : Fn) (first cap : Array Value) (w : World), (Instr.makeFunc fn first cap).run Try.prog w = .ok (.func fn first cap) w := fun _ _ _ _ => rfl
  clear ht hn hL
  go_enter Try.func69, Try.ntmps69
  go_wp2_with fail
  go_ret
  exact ⟨_, rfl, HR.out.1, HR.out.2⟩
set_option maxRecDepth 100000 in
set_option maxHeartbeats 1000000 in
theorem Cas_mk {m : Nat} {k : S.K} {i old v : Int} {G : Bool → St S.R → S.K × St S.R} {vt : Value} {w : World} {L : Lay} (hv : 0 ≤ v ∧ v < 18446744073709551616) (hL : ∀ k, Mut S L k → k < w.heap.size) (hk : S.nil k = false) (hn : ∀ σ, S.next k σ = G (σ.cas i old v).1 (σ.cas i old v).2)
    (ht : ∀ x, Takes S m #[.bool x] (G x) vt w L) :
    Calls Try.prog 70 #[.pointer (some ⟨S.a, 0, none⟩), .int .i64 i, .int .u64 old, .int .u64 v, vt] w (Makes S (m + 1) k L w) := by
  obtain ⟨f, cap, rfl⟩ : ∃ f cap, vt = .func (.func f) #[] cap := by obtain ⟨f, cap, h, _⟩ := ht true; exact ⟨f, cap, h⟩
  have HR : Hid (Made w (((((w.alloc (.cells #[.pointer (some ⟨S.a, 0, none⟩)] 50)).alloc (.cells #[.int .i64 i] 3)).alloc (.cells #[.int .u64 old] 22)).alloc (.cells #[.int .u64 v] 22)).alloc (.cells #[(.func (.func f) #[] cap)] 122)) ∧ Rep S (m + 1) k (.func (.func 89) #[] #[.pointer (some ⟨w.heap.size + 1 + 1 + 1 + 1, 0, none⟩), .pointer (some ⟨w.heap.size, 0, none⟩), .pointer (some ⟨w.heap.size + 1, 0, none⟩), .pointer (some ⟨w.heap.size + 1 + 1, 0, none⟩), .pointer (some ⟨w.heap.size + 1 + 1 + 1, 0, none⟩)]) (((((w.alloc (.cells #[.pointer (some ⟨S.a, 0, none⟩)] 50)).alloc (.cells #[.int .i64 i] 3)).alloc (.cells #[.int .u64 old] 22)).alloc (.cells #[.int .u64 v] 22)).alloc (.cells #[(.func (.func f) #[] cap)] 122)) L) := by
    have m0 : Made w (w.alloc (.cells #[.pointer (some ⟨S.a, 0, none⟩)] 50)) := (Made.refl _).alloc (Nat.le_refl _) _
    have m1 : Made (w.alloc (.cells #[.pointer (some ⟨S.a, 0, none⟩)] 50)) ((w.alloc (.cells #[.pointer (some ⟨S.a, 0, none⟩)] 50)).alloc (.cells #[.int .i64 i] 3)) := (Made.refl _).alloc (Nat.le_refl _) _
    have m2 : Made ((w.alloc (.cells #[.pointer (some ⟨S.a, 0, none⟩)] 50)).alloc (.cells #[.int .i64 i] 3)) (((w.alloc (.cells #[.pointer (some ⟨S.a, 0, none⟩)] 50)).alloc (.cells #[.int .i64 i] 3)).alloc (.cells #[.int .u64 old] 22)) := (Made.refl _).alloc (Nat.le_refl _) _
    have m3 : Made (((w.alloc (.cells #[.pointer (some ⟨S.a, 0, none⟩)] 50)).alloc (.cells #[.int .i64 i] 3)).alloc (.cells #[.int .u64 old] 22)) ((((w.alloc (.cells #[.pointer (some ⟨S.a, 0, none⟩)] 50)).alloc (.cells #[.int .i64 i] 3)).alloc (.cells #[.int .u64 old] 22)).alloc (.cells #[.int .u64 v] 22)) := (Made.refl _).alloc (Nat.le_refl _) _
    have m4 : Made ((((w.alloc (.cells #[.pointer (some ⟨S.a, 0, none⟩)] 50)).alloc (.cells #[.int .i64 i] 3)).alloc (.cells #[.int .u64 old] 22)).alloc (.cells #[.int .u64 v] 22)) (((((w.alloc (.cells #[.pointer (some ⟨S.a, 0, none⟩)] 50)).alloc (.cells #[.int .i64 i] 3)).alloc (.cells #[.int .u64 old] 22)).alloc (.cells #[.int .u64 v] 22)).alloc (.cells #[(.func (.func f) #[] cap)] 122)) := (Made.refl _).alloc (Nat.le_refl _) _
    have q0 : Box S (w.alloc (.cells #[.pointer (some ⟨S.a, 0, none⟩)] 50)) L (w.heap.size) _ := Box.new (fun k hk => by have := hL k hk; first | omega | (simp only [World.size_alloc]; omega)) (by first | rfl | simp only [World.size_alloc])
    have q1 : Box S ((w.alloc (.cells #[.pointer (some ⟨S.a, 0, none⟩)] 50)).alloc (.cells #[.int .i64 i] 3)) L (w.heap.size + 1) _ := Box.new (fun k hk => by have := hL k hk; first | omega | (simp only [World.size_alloc]; omega)) (by first | rfl | simp only [World.size_alloc])
    have q2 : Box S (((w.alloc (.cells #[.pointer (some ⟨S.a, 0, none⟩)] 50)).alloc (.cells #[.int .i64 i] 3)).alloc (.cells #[.int .u64 old] 22)) L (w.heap.size + 1 + 1) _ := Box.new (fun k hk => by have := hL k hk; first | omega | (simp only [World.size_alloc]; omega)) (by first | rfl | simp only [World.size_alloc])
    have q3 : Box S ((((w.alloc (.cells #[.pointer (some ⟨S.a, 0, none⟩)] 50)).alloc (.cells #[.int .i64 i] 3)).alloc (.cells #[.int .u64 old] 22)).alloc (.cells #[.int .u64 v] 22)) L (w.heap.size + 1 + 1 + 1) _ := Box.new (fun k hk => by have := hL k hk; first | omega | (simp only [World.size_alloc]; omega)) (by first | rfl | simp only [World.size_alloc])
    have q4 : Box S (((((w.alloc (.cells #[.pointer (some ⟨S.a, 0, none⟩)] 50)).alloc (.cells #[.int .i64 i] 3)).alloc (.cells #[.int .u64 old] 22)).alloc (.cells #[.int .u64 v] 22)).alloc (.cells #[(.func (.func f) #[] cap)] 122)) L (w.heap.size + 1 + 1 + 1 + 1) _ := Box.new (fun k hk => by have := hL k hk; first | omega | (simp only [World.size_alloc]; omega)) (by first | rfl | simp only [World.size_alloc])
    have q0 := q0.later (Ext.of_made m1)
    have q0 := q0.later (Ext.of_made m2)
    have q0 := q0.later (Ext.of_made m3)
    have q0 := q0.later (Ext.of_made m4)
    have q1 := q1.later (Ext.of_made m2)
    have q1 := q1.later (Ext.of_made m3)
    have q1 := q1.later (Ext.of_made m4)
    have q2 := q2.later (Ext.of_made m3)
    have q2 := q2.later (Ext.of_made m4)
    have q3 := q3.later (Ext.of_made m4)
    have hm : Made w (((((w.alloc (.cells #[.pointer (some ⟨S.a, 0, none⟩)] 50)).alloc (.cells #[.int .i64 i] 3)).alloc (.cells #[.int .u64 old] 22)).alloc (.cells #[.int .u64 v] 22)).alloc (.cells #[(.func (.func f) #[] cap)] 122)) := Made.trans (Made.trans (Made.trans (Made.trans (m0) m1) m2) m3) m4
    exact ⟨hm, Cas_rep hv hk hn (fun x => (ht x).later (Ext.of_made hm)) q4 q0 q1 q2 q3⟩
  have hmf : ∀ (fn : Fn) (first cap : Array Value) (w : World), (Instr.makeFunc fn first cap).run Try.prog w = .ok (.func fn first cap) w := fun _ _ _ _ => rfl
  clear ht hn hL
  go_enter Try.func70, Try.ntmps70
  go_wp2_with fail
  go_ret
  exact ⟨_, rfl, HR.out.1, HR.out.2⟩
set_option maxRecDepth 100000 in
set_option maxHeartbeats 1000000 in
theorem Idle_mk {m : Nat} {k : S.K}  {G : St S.R → S.K × St S.R} {vt : Value} {w : World} {L : Lay}  (hL : ∀ k, Mut S L k → k < w.heap.size) (hk : S.nil k = false) (hn : ∀ σ, S.next k σ = G σ)
    (ht : Takes S m #[] G vt w L) :
    Calls Try.prog 72 #[vt] w (Makes S (m + 1) k L w) := by
  obtain ⟨f, cap, rfl⟩ : ∃ f cap, vt = .func (.func f) #[] cap := by obtain ⟨f, cap, h, _⟩ := ht; exact ⟨f, cap, h⟩
  have HR : Hid (Made w (w.alloc (.cells #[(.func (.func f) #[] cap)] 59)) ∧ Rep S (m + 1) k (.func (.func 91) #[] #[.pointer (some ⟨w.heap.size, 0, none⟩)]) (w.alloc (.cells #[(.func (.func f) #[] cap)] 59)) L) := by
    have m0 : Made w (w.alloc (.cells #[(.func (.func f) #[] cap)] 59)) := (Made.refl _).alloc (Nat.le_refl _) _
    have q0 : Box S (w.alloc (.cells #[(.func (.func f) #[] cap)] 59)) L (w.heap.size) _ := Box.new (fun k hk => by have := hL k hk; first | omega | (simp only [World.size_alloc]; omega)) (by first | rfl | simp only [World.size_alloc])
    have hm : Made w (w.alloc (.cells #[(.func (.func f) #[] cap)] 59)) := m0
    exact ⟨hm, Idle_rep  hk hn (ht.later (Ext.of_made hm)) q0⟩
  have hmf : ∀ (fn : Fn) (first cap : Array Value) (w : World), (Instr.makeFunc fn first cap).run Try.prog w = .ok (.func fn first cap) w := fun _ _ _ _ => rfl
  clear ht hn hL
  go_enter Try.func72, Try.ntmps72
  go_wp2_with fail
  go_ret
  exact ⟨_, rfl, HR.out.1, HR.out.2⟩
end Go.Proofs.Ythllplocbciepaa.Cod
