/- The code of acts (knelllaw07.code), walked. -/
import Derived.Test.YthllplocbciepaaCode7
namespace Go.Proofs.Ythllplocbciepaa.Cod.Seven
open Go.RowKit Go.Proofs.Ythllplocbciepaa Go.Proofs.Ythllplocbciepaa.Cell
set_option linter.unusedVariables false
set_option linter.unusedSimpArgs false
variable {a b sb ns : Nat}

/-- A call of a captured value, and nothing else. -/
theorem handed {S : Sys} {m q : Nat} {args : Array Value} {G : St S.R → S.K × St S.R} {f : FuncId} {cap : Array Value} {w w' : World} {L L' : Lay} {σ : St S.R} {rs : List Value}
    (hc : ∀ n w' L' σ rs, Ext S w L w' L' → Inv S n σ rs L' w' → Calls Try.prog f (args ++ cap) w' (Gives S m n (G σ) rs L' w')) (hx : Ext S w L w' L') (hv : Inv S q σ rs L' w') : Calls Try.prog f (args ++ cap) w' (Gives S m q (G σ) rs L' w') :=
  hc q w' L' σ rs hx hv
set_option maxRecDepth 100000 in
set_option maxHeartbeats 1000000 in
theorem zero_takes {S : Sys} {m : Nat} {G : St S.R → S.K × St S.R} {vt : Value} {w : World} {L : Lay} {b1 : Nat} (ht : Takes S m #[.int .u64 0] G vt w L) (h1 : Box S w L b1 vt) :
    Takes S m #[] G (.func (.func 68) #[] #[.pointer (some ⟨b1, 0, none⟩)]) w L := by
  refine ⟨_, _, rfl, enters_of Try.func68 (by kernel_rfl) rfl, fun q w' L' σ rs hx hv => ?_⟩
  obtain ⟨f, cap, rfl, hf, hc⟩ := ht
  have c1 := (h1.later hx).cell
  have HC := Lib.hid (hc q w' L' σ rs hx hv)
  have hen : ∀ (args : Array Value) (w : World), (callFunc f args).run Try.prog w = .ok (.enter f args) w := hf
  clear h1 hc hx hv
  rw [Array.empty_append]
  go_enter Try.func68, Try.ntmps68
  go_wp2_with fail
  refine HC.out.mono ?_
  rintro e w2 ⟨v, L2, rfl, hrest⟩
  have HF : Hid (Gives S m q (G σ) rs L' w' (.returned v) w2) := ⟨v, L2, rfl, hrest⟩
  clear hrest HC
  go_wp2_with fail
  go_ret
  exact HF.out
set_option maxRecDepth 100000 in
set_option maxHeartbeats 1000000 in
theorem bool_takes {S : Sys} {m : Nat} {G : Int → St S.R → S.K × St S.R} {vt : Value} {w : World} {L : Lay} {b1 : Nat} (ht : ∀ x, Takes S m #[.int .u64 x] (G x) vt w L) (h1 : Box S w L b1 vt) (ok : Bool) :
    Takes S m #[.bool ok] (G (if ok then 1 else 0)) (.func (.func 71) #[] #[.pointer (some ⟨b1, 0, none⟩)]) w L := by
  refine ⟨_, _, rfl, enters_of Try.func71 (by kernel_rfl) rfl, fun q w' L' σ rs hx hv => ?_⟩
  obtain ⟨f, cap, rfl, hf, hc⟩ := ht (if ok then 1 else 0)
  have c1 := (h1.later hx).cell
  have HC := Lib.hid (hc q w' L' σ rs hx hv)
  have hen : ∀ (args : Array Value) (w : World), (callFunc f args).run Try.prog w = .ok (.enter f args) w := hf
  clear h1 hc hx hv ht
  cases ok
  all_goals
    simp only [if_true, if_false, Bool.false_eq_true] at HC ⊢
    go_enter Try.func71, Try.ntmps71
    go_wp2_with fail
    refine HC.out.mono ?_
    rintro e w2 ⟨v, L2, rfl, hrest⟩
    first
    | have HF : Hid (Gives S m q (G 0 σ) rs L' w' (.returned v) w2) := ⟨v, L2, rfl, hrest⟩
    | have HF : Hid (Gives S m q (G 1 σ) rs L' w' (.returned v) w2) := ⟨v, L2, rfl, hrest⟩
    clear hrest HC
    go_wp2_with fail
    go_ret
    exact HF.out

theorem RdA.head {w : World} {B : Nat} {A : Option Addr} {x : Acc} {l : List Acc} (h : RdA w B A (x :: l)) : ∃ g o, A = some ⟨g, o, none⟩ ∧ g < B ∧
    w.cell? ⟨g, o, none⟩ = some (.int .i64 x.kind) ∧ w.cell? ⟨g, o + 1, none⟩ = some (.int .i64 x.i) ∧ w.cell? ⟨g, o + 2, none⟩ = some (.int .u64 x.old) ∧ w.cell? ⟨g, o + 3, none⟩ = some (.int .u64 x.v) := by
  obtain ⟨⟨g, o, s⟩, rfl, hb, k0, k1, k2, k3⟩ := h 0 (by simp)
  have e : s = none := by
    simp only [Nat.zero_mul, Addr.add] at k0
    unfold World.cell? at k0
    simp only [if_true] at k0
    split at k0
    · cases s
      · rfl
      · simp at k0
    · simp at k0
  subst e
  exact ⟨g, o, rfl, hb, by simpa [Addr.add] using k0, by simpa [Addr.add] using k1, by simpa [Addr.add] using k2, by simpa [Addr.add] using k3⟩
set_option maxRecDepth 100000 in
set_option maxHeartbeats 2000000 in
theorem code_all : ∀ l, CodeC a b sb ns l := by
  intro l
  induction l with
  | nil =>
    intro m i B w L A n c hn hnc hc hi hL ho hl hwf
    obtain rfl : n = 0 := hn.out
    have HF : Hid (∀ w', Made w w' → Makes (S7 a b sb ns) m (i, []) L w (.returned .nilFunc) w') := fun w' hm => ⟨_, rfl, hm, Rep.none rfl⟩
    have HM : Hid (Made w (((w.alloc (.cells #[.pointer (some ⟨a, 0, none⟩)] 50)).alloc (.cells #[.slice A 0 c] 56)).alloc (.cells #[.pointer (some ⟨sb, i, none⟩)] 62))) :=
      (((Made.refl _).alloc (Nat.le_refl _) _).alloc (by simp only [World.size_alloc]; omega) _).alloc (by simp only [World.size_alloc]; omega) _
    clear hL ho hl hwf
    go_enter Try.func38, Try.ntmps38
    go_wp2_with fail
    go_ret
    exact HF.out _ HM.out
  | cons x l IH =>
    intro m i B w L A n c hn hnc hc hi hL ho hl hwf
    obtain ⟨n, rfl⟩ : ∃ k, n = k + 1 := ⟨l.length, by rw [hn.out]; rfl⟩
    have hn' : Hid (n = l.length) := by have h := hn.out; simp only [List.length_cons] at h; show _ = _; omega
    obtain ⟨g, o, rfl, hab, k0, k1, k2, k3⟩ := RdA.head hl
    have hgw : g < w.heap.size := Nat.lt_of_lt_of_le hab ho.le
    obtain ⟨x0, x1, x2, x3⟩ := x
    simp only at k0 k1 k2 k3
    have hn0 : (0 : Int) ≤ (n : Int) := by omega
    have hal : ∀ o1 o2 o3, Made w (((w.alloc o1).alloc o2).alloc o3) := fun o1 o2 o3 => (((Made.refl _).alloc (Nat.le_refl _) _).alloc (by simp only [World.size_alloc]; omega) _).alloc (by simp only [World.size_alloc]; omega) _
    have q0 : ∀ o1 o2 o3, (((w.alloc o1).alloc o2).alloc o3).cell? ⟨g, o, none⟩ = some (.int .i64 x0) := fun o1 o2 o3 => ((hal o1 o2 o3).cell hgw).trans k0
    have q1 : ∀ o1 o2 o3, (((w.alloc o1).alloc o2).alloc o3).cell? ⟨g, o + 1, none⟩ = some (.int .i64 x1) := fun o1 o2 o3 => ((hal o1 o2 o3).cell hgw).trans k1
    have q2 : ∀ o1 o2 o3, (((w.alloc o1).alloc o2).alloc o3).cell? ⟨g, o + 2, none⟩ = some (.int .u64 x2) := fun o1 o2 o3 => ((hal o1 o2 o3).cell hgw).trans k2
    have q3 : ∀ o1 o2 o3, (((w.alloc o1).alloc o2).alloc o3).cell? ⟨g, o + 3, none⟩ = some (.int .u64 x3) := fun o1 o2 o3 => ((hal o1 o2 o3).cell hgw).trans k3
    have hnz : ((n : Int) + 1 == 0) = false := by simp; omega
    clear hn hal k0 k1 k2 k3
    have m0 : Made w (w.alloc (.cells #[.pointer (some ⟨a, 0, none⟩)] 50)) := (Made.refl _).alloc (Nat.le_refl _) _
    have m1 : Made (w.alloc (.cells #[.pointer (some ⟨a, 0, none⟩)] 50)) ((w.alloc (.cells #[.pointer (some ⟨a, 0, none⟩)] 50)).alloc (.cells #[.slice (some ⟨g, o, none⟩) (n + 1) c] 56)) := (Made.refl _).alloc (Nat.le_refl _) _
    have m2 : Made ((w.alloc (.cells #[.pointer (some ⟨a, 0, none⟩)] 50)).alloc (.cells #[.slice (some ⟨g, o, none⟩) (n + 1) c] 56)) (((w.alloc (.cells #[.pointer (some ⟨a, 0, none⟩)] 50)).alloc (.cells #[.slice (some ⟨g, o, none⟩) (n + 1) c] 56)).alloc (.cells #[.pointer (some ⟨sb, i, none⟩)] 62)) := (Made.refl _).alloc (Nat.le_refl _) _
    have m3 : Made (((w.alloc (.cells #[.pointer (some ⟨a, 0, none⟩)] 50)).alloc (.cells #[.slice (some ⟨g, o, none⟩) (n + 1) c] 56)).alloc (.cells #[.pointer (some ⟨sb, i, none⟩)] 62)) ((((w.alloc (.cells #[.pointer (some ⟨a, 0, none⟩)] 50)).alloc (.cells #[.slice (some ⟨g, o, none⟩) (n + 1) c] 56)).alloc (.cells #[.pointer (some ⟨sb, i, none⟩)] 62)).alloc (.cells #[.int .i64 x0, .int .i64 x1, .int .u64 x2, .int .u64 x3] 119)) := (Made.refl _).alloc (Nat.le_refl _) _
    have m4 : Made ((((w.alloc (.cells #[.pointer (some ⟨a, 0, none⟩)] 50)).alloc (.cells #[.slice (some ⟨g, o, none⟩) (n + 1) c] 56)).alloc (.cells #[.pointer (some ⟨sb, i, none⟩)] 62)).alloc (.cells #[.int .i64 x0, .int .i64 x1, .int .u64 x2, .int .u64 x3] 119)) (((((w.alloc (.cells #[.pointer (some ⟨a, 0, none⟩)] 50)).alloc (.cells #[.slice (some ⟨g, o, none⟩) (n + 1) c] 56)).alloc (.cells #[.pointer (some ⟨sb, i, none⟩)] 62)).alloc (.cells #[.int .i64 x0, .int .i64 x1, .int .u64 x2, .int .u64 x3] 119)).alloc (.cells #[.func (.func 66) #[] #[.pointer (some ⟨w.heap.size, 0, none⟩), .pointer (some ⟨w.heap.size + 1, 0, none⟩), .pointer (some ⟨w.heap.size + 1 + 1, 0, none⟩)]] 59)) := (Made.refl _).alloc (Nat.le_refl _) _
    have m5 : Made (((((w.alloc (.cells #[.pointer (some ⟨a, 0, none⟩)] 50)).alloc (.cells #[.slice (some ⟨g, o, none⟩) (n + 1) c] 56)).alloc (.cells #[.pointer (some ⟨sb, i, none⟩)] 62)).alloc (.cells #[.int .i64 x0, .int .i64 x1, .int .u64 x2, .int .u64 x3] 119)).alloc (.cells #[.func (.func 66) #[] #[.pointer (some ⟨w.heap.size, 0, none⟩), .pointer (some ⟨w.heap.size + 1, 0, none⟩), .pointer (some ⟨w.heap.size + 1 + 1, 0, none⟩)]] 59)) ((((((w.alloc (.cells #[.pointer (some ⟨a, 0, none⟩)] 50)).alloc (.cells #[.slice (some ⟨g, o, none⟩) (n + 1) c] 56)).alloc (.cells #[.pointer (some ⟨sb, i, none⟩)] 62)).alloc (.cells #[.int .i64 x0, .int .i64 x1, .int .u64 x2, .int .u64 x3] 119)).alloc (.cells #[.func (.func 66) #[] #[.pointer (some ⟨w.heap.size, 0, none⟩), .pointer (some ⟨w.heap.size + 1, 0, none⟩), .pointer (some ⟨w.heap.size + 1 + 1, 0, none⟩)]] 59)).alloc (.cells #[.func (.func 67) #[] #[.pointer (some ⟨w.heap.size + 1 + 1, 0, none⟩), .pointer (some ⟨w.heap.size + 1 + 1 + 1 + 1, 0, none⟩)]] 106)) := (Made.refl _).alloc (Nat.le_refl _) _
    have m05 := Made.trans (Made.trans (Made.trans (Made.trans (Made.trans m0 m1) m2) m3) m4) m5
    have hL6 : ∀ k, Mut (S7 a b sb ns) L k → k < ((((((w.alloc (.cells #[.pointer (some ⟨a, 0, none⟩)] 50)).alloc (.cells #[.slice (some ⟨g, o, none⟩) (n + 1) c] 56)).alloc (.cells #[.pointer (some ⟨sb, i, none⟩)] 62)).alloc (.cells #[.int .i64 x0, .int .i64 x1, .int .u64 x2, .int .u64 x3] 119)).alloc (.cells #[.func (.func 66) #[] #[.pointer (some ⟨w.heap.size, 0, none⟩), .pointer (some ⟨w.heap.size + 1, 0, none⟩), .pointer (some ⟨w.heap.size + 1 + 1, 0, none⟩)]] 59)).alloc (.cells #[.func (.func 67) #[] #[.pointer (some ⟨w.heap.size + 1 + 1, 0, none⟩), .pointer (some ⟨w.heap.size + 1 + 1 + 1 + 1, 0, none⟩)]] 106)).heap.size := fun k hk => by have := hL k hk; have := m05.size; omega
    have r0 : Box (S7 a b sb ns) (w.alloc (.cells #[.pointer (some ⟨a, 0, none⟩)] 50)) L (w.heap.size) _ := Box.new (fun k hk => by have := hL k hk; first | omega | (simp only [World.size_alloc]; omega)) (by first | rfl | simp only [World.size_alloc])
    have r0 := r0.later (Ext.of_made m1)
    have r0 := r0.later (Ext.of_made m2)
    have r0 := r0.later (Ext.of_made m3)
    have r0 := r0.later (Ext.of_made m4)
    have r0 := r0.later (Ext.of_made m5)
    have r1 : Box (S7 a b sb ns) ((w.alloc (.cells #[.pointer (some ⟨a, 0, none⟩)] 50)).alloc (.cells #[.slice (some ⟨g, o, none⟩) (n + 1) c] 56)) L (w.heap.size + 1) _ := Box.new (fun k hk => by have := hL k hk; first | omega | (simp only [World.size_alloc]; omega)) (by first | rfl | simp only [World.size_alloc])
    have r1 := r1.later (Ext.of_made m2)
    have r1 := r1.later (Ext.of_made m3)
    have r1 := r1.later (Ext.of_made m4)
    have r1 := r1.later (Ext.of_made m5)
    have r2 : Box (S7 a b sb ns) (((w.alloc (.cells #[.pointer (some ⟨a, 0, none⟩)] 50)).alloc (.cells #[.slice (some ⟨g, o, none⟩) (n + 1) c] 56)).alloc (.cells #[.pointer (some ⟨sb, i, none⟩)] 62)) L (w.heap.size + 1 + 1) _ := Box.new (fun k hk => by have := hL k hk; first | omega | (simp only [World.size_alloc]; omega)) (by first | rfl | simp only [World.size_alloc])
    have r2 := r2.later (Ext.of_made m3)
    have r2 := r2.later (Ext.of_made m4)
    have r2 := r2.later (Ext.of_made m5)
    have r4 : Box (S7 a b sb ns) (((((w.alloc (.cells #[.pointer (some ⟨a, 0, none⟩)] 50)).alloc (.cells #[.slice (some ⟨g, o, none⟩) (n + 1) c] 56)).alloc (.cells #[.pointer (some ⟨sb, i, none⟩)] 62)).alloc (.cells #[.int .i64 x0, .int .i64 x1, .int .u64 x2, .int .u64 x3] 119)).alloc (.cells #[.func (.func 66) #[] #[.pointer (some ⟨w.heap.size, 0, none⟩), .pointer (some ⟨w.heap.size + 1, 0, none⟩), .pointer (some ⟨w.heap.size + 1 + 1, 0, none⟩)]] 59)) L (w.heap.size + 1 + 1 + 1 + 1) _ := Box.new (fun k hk => by have := hL k hk; first | omega | (simp only [World.size_alloc]; omega)) (by first | rfl | simp only [World.size_alloc])
    have r4 := r4.later (Ext.of_made m5)
    have r5 : Box (S7 a b sb ns) ((((((w.alloc (.cells #[.pointer (some ⟨a, 0, none⟩)] 50)).alloc (.cells #[.slice (some ⟨g, o, none⟩) (n + 1) c] 56)).alloc (.cells #[.pointer (some ⟨sb, i, none⟩)] 62)).alloc (.cells #[.int .i64 x0, .int .i64 x1, .int .u64 x2, .int .u64 x3] 119)).alloc (.cells #[.func (.func 66) #[] #[.pointer (some ⟨w.heap.size, 0, none⟩), .pointer (some ⟨w.heap.size + 1, 0, none⟩), .pointer (some ⟨w.heap.size + 1 + 1, 0, none⟩)]] 59)).alloc (.cells #[.func (.func 67) #[] #[.pointer (some ⟨w.heap.size + 1 + 1, 0, none⟩), .pointer (some ⟨w.heap.size + 1 + 1 + 1 + 1, 0, none⟩)]] 106)) L (w.heap.size + 1 + 1 + 1 + 1 + 1) _ := Box.new (fun k hk => by have := hL k hk; first | omega | (simp only [World.size_alloc]; omega)) (by first | rfl | simp only [World.size_alloc])
    have HR1 := rest_takes (m := m) (x := ⟨x0, x1, x2, x3⟩) IH hn' hnc hc hi (ho.later (Ext.of_made m05)) (hl.later (ho.below (Ext.of_made m05))) (fun z hz => hwf z (List.mem_cons_of_mem _ hz)) r0 r1 r2
    have HT1 := fun v => told_takes (v := v) hi HR1 r2 r4
    have hxw := hwf _ List.mem_cons_self
    have hxv := hxw.v0
    have HD : Hid (∀ e w2, Makes (S7 a b sb ns) (m + 1) (i, ⟨x0, x1, x2, x3⟩ :: l) L ((((((w.alloc (.cells #[.pointer (some ⟨a, 0, none⟩)] 50)).alloc (.cells #[.slice (some ⟨g, o, none⟩) (n + 1) c] 56)).alloc (.cells #[.pointer (some ⟨sb, i, none⟩)] 62)).alloc (.cells #[.int .i64 x0, .int .i64 x1, .int .u64 x2, .int .u64 x3] 119)).alloc (.cells #[.func (.func 66) #[] #[.pointer (some ⟨w.heap.size, 0, none⟩), .pointer (some ⟨w.heap.size + 1, 0, none⟩), .pointer (some ⟨w.heap.size + 1 + 1, 0, none⟩)]] 59)).alloc (.cells #[.func (.func 67) #[] #[.pointer (some ⟨w.heap.size + 1 + 1, 0, none⟩), .pointer (some ⟨w.heap.size + 1 + 1 + 1 + 1, 0, none⟩)]] 106)) e w2 → Makes (S7 a b sb ns) m (i, ⟨x0, x1, x2, x3⟩ :: l) L w e w2 ∧ ∃ v, e = .returned v) := by
      rintro e w2 ⟨v, rfl, hm, hr⟩
      exact ⟨⟨v, rfl, Made.trans m05 hm, hr.lower⟩, v, rfl⟩
    have H0 : Hid (x0 = 0 → Calls Try.prog 61 #[.pointer (some ⟨a, 0, none⟩), .int .i64 x1, .func (.func 67) #[] #[.pointer (some ⟨w.heap.size + 1 + 1, 0, none⟩), .pointer (some ⟨w.heap.size + 1 + 1 + 1 + 1, 0, none⟩)]] ((((((w.alloc (.cells #[.pointer (some ⟨a, 0, none⟩)] 50)).alloc (.cells #[.slice (some ⟨g, o, none⟩) (n + 1) c] 56)).alloc (.cells #[.pointer (some ⟨sb, i, none⟩)] 62)).alloc (.cells #[.int .i64 x0, .int .i64 x1, .int .u64 x2, .int .u64 x3] 119)).alloc (.cells #[.func (.func 66) #[] #[.pointer (some ⟨w.heap.size, 0, none⟩), .pointer (some ⟨w.heap.size + 1, 0, none⟩), .pointer (some ⟨w.heap.size + 1 + 1, 0, none⟩)]] 59)).alloc (.cells #[.func (.func 67) #[] #[.pointer (some ⟨w.heap.size + 1 + 1, 0, none⟩), .pointer (some ⟨w.heap.size + 1 + 1 + 1 + 1, 0, none⟩)]] 106)) (Makes (S7 a b sb ns) (m + 1) (i, ⟨x0, x1, x2, x3⟩ :: l) L ((((((w.alloc (.cells #[.pointer (some ⟨a, 0, none⟩)] 50)).alloc (.cells #[.slice (some ⟨g, o, none⟩) (n + 1) c] 56)).alloc (.cells #[.pointer (some ⟨sb, i, none⟩)] 62)).alloc (.cells #[.int .i64 x0, .int .i64 x1, .int .u64 x2, .int .u64 x3] 119)).alloc (.cells #[.func (.func 66) #[] #[.pointer (some ⟨w.heap.size, 0, none⟩), .pointer (some ⟨w.heap.size + 1, 0, none⟩), .pointer (some ⟨w.heap.size + 1 + 1, 0, none⟩)]] 59)).alloc (.cells #[.func (.func 67) #[] #[.pointer (some ⟨w.heap.size + 1 + 1, 0, none⟩), .pointer (some ⟨w.heap.size + 1 + 1 + 1 + 1, 0, none⟩)]] 106)))) := fun h =>
      Load_mk (S := S7 a b sb ns) hL6 rfl (fun σ => by subst h; simp [S7, act]) (fun v _ _ => HT1 v)
    have H1 : Hid (x0 = 1 → Calls Try.prog 63 #[.pointer (some ⟨a, 0, none⟩), .int .i64 x1, .int .u64 x3, .func (.func 68) #[] #[.pointer (some ⟨w.heap.size + 1 + 1 + 1 + 1 + 1, 0, none⟩)]] ((((((w.alloc (.cells #[.pointer (some ⟨a, 0, none⟩)] 50)).alloc (.cells #[.slice (some ⟨g, o, none⟩) (n + 1) c] 56)).alloc (.cells #[.pointer (some ⟨sb, i, none⟩)] 62)).alloc (.cells #[.int .i64 x0, .int .i64 x1, .int .u64 x2, .int .u64 x3] 119)).alloc (.cells #[.func (.func 66) #[] #[.pointer (some ⟨w.heap.size, 0, none⟩), .pointer (some ⟨w.heap.size + 1, 0, none⟩), .pointer (some ⟨w.heap.size + 1 + 1, 0, none⟩)]] 59)).alloc (.cells #[.func (.func 67) #[] #[.pointer (some ⟨w.heap.size + 1 + 1, 0, none⟩), .pointer (some ⟨w.heap.size + 1 + 1 + 1 + 1, 0, none⟩)]] 106)) (Makes (S7 a b sb ns) (m + 1) (i, ⟨x0, x1, x2, x3⟩ :: l) L ((((((w.alloc (.cells #[.pointer (some ⟨a, 0, none⟩)] 50)).alloc (.cells #[.slice (some ⟨g, o, none⟩) (n + 1) c] 56)).alloc (.cells #[.pointer (some ⟨sb, i, none⟩)] 62)).alloc (.cells #[.int .i64 x0, .int .i64 x1, .int .u64 x2, .int .u64 x3] 119)).alloc (.cells #[.func (.func 66) #[] #[.pointer (some ⟨w.heap.size, 0, none⟩), .pointer (some ⟨w.heap.size + 1, 0, none⟩), .pointer (some ⟨w.heap.size + 1 + 1, 0, none⟩)]] 59)).alloc (.cells #[.func (.func 67) #[] #[.pointer (some ⟨w.heap.size + 1 + 1, 0, none⟩), .pointer (some ⟨w.heap.size + 1 + 1 + 1 + 1, 0, none⟩)]] 106)))) := fun h =>
      Store_mk (S := S7 a b sb ns) hxv hL6 rfl (fun σ => by subst h; simp [S7, act]) (zero_takes (HT1 0) r5)
    have H2 : Hid (x0 = 2 → Calls Try.prog 69 #[.pointer (some ⟨a, 0, none⟩), .int .i64 x1, .int .u64 x3, .func (.func 67) #[] #[.pointer (some ⟨w.heap.size + 1 + 1, 0, none⟩), .pointer (some ⟨w.heap.size + 1 + 1 + 1 + 1, 0, none⟩)]] ((((((w.alloc (.cells #[.pointer (some ⟨a, 0, none⟩)] 50)).alloc (.cells #[.slice (some ⟨g, o, none⟩) (n + 1) c] 56)).alloc (.cells #[.pointer (some ⟨sb, i, none⟩)] 62)).alloc (.cells #[.int .i64 x0, .int .i64 x1, .int .u64 x2, .int .u64 x3] 119)).alloc (.cells #[.func (.func 66) #[] #[.pointer (some ⟨w.heap.size, 0, none⟩), .pointer (some ⟨w.heap.size + 1, 0, none⟩), .pointer (some ⟨w.heap.size + 1 + 1, 0, none⟩)]] 59)).alloc (.cells #[.func (.func 67) #[] #[.pointer (some ⟨w.heap.size + 1 + 1, 0, none⟩), .pointer (some ⟨w.heap.size + 1 + 1 + 1 + 1, 0, none⟩)]] 106)) (Makes (S7 a b sb ns) (m + 1) (i, ⟨x0, x1, x2, x3⟩ :: l) L ((((((w.alloc (.cells #[.pointer (some ⟨a, 0, none⟩)] 50)).alloc (.cells #[.slice (some ⟨g, o, none⟩) (n + 1) c] 56)).alloc (.cells #[.pointer (some ⟨sb, i, none⟩)] 62)).alloc (.cells #[.int .i64 x0, .int .i64 x1, .int .u64 x2, .int .u64 x3] 119)).alloc (.cells #[.func (.func 66) #[] #[.pointer (some ⟨w.heap.size, 0, none⟩), .pointer (some ⟨w.heap.size + 1, 0, none⟩), .pointer (some ⟨w.heap.size + 1 + 1, 0, none⟩)]] 59)).alloc (.cells #[.func (.func 67) #[] #[.pointer (some ⟨w.heap.size + 1 + 1, 0, none⟩), .pointer (some ⟨w.heap.size + 1 + 1 + 1 + 1, 0, none⟩)]] 106)))) := fun h =>
      Swap_mk (S := S7 a b sb ns) hxv hL6 rfl (fun σ => by subst h; simp [S7, act]) (fun v _ _ => HT1 v)
    have H3 : Hid (x0 = 3 → Calls Try.prog 70 #[.pointer (some ⟨a, 0, none⟩), .int .i64 x1, .int .u64 x2, .int .u64 x3, .func (.func 71) #[] #[.pointer (some ⟨w.heap.size + 1 + 1 + 1 + 1 + 1, 0, none⟩)]] ((((((w.alloc (.cells #[.pointer (some ⟨a, 0, none⟩)] 50)).alloc (.cells #[.slice (some ⟨g, o, none⟩) (n + 1) c] 56)).alloc (.cells #[.pointer (some ⟨sb, i, none⟩)] 62)).alloc (.cells #[.int .i64 x0, .int .i64 x1, .int .u64 x2, .int .u64 x3] 119)).alloc (.cells #[.func (.func 66) #[] #[.pointer (some ⟨w.heap.size, 0, none⟩), .pointer (some ⟨w.heap.size + 1, 0, none⟩), .pointer (some ⟨w.heap.size + 1 + 1, 0, none⟩)]] 59)).alloc (.cells #[.func (.func 67) #[] #[.pointer (some ⟨w.heap.size + 1 + 1, 0, none⟩), .pointer (some ⟨w.heap.size + 1 + 1 + 1 + 1, 0, none⟩)]] 106)) (Makes (S7 a b sb ns) (m + 1) (i, ⟨x0, x1, x2, x3⟩ :: l) L ((((((w.alloc (.cells #[.pointer (some ⟨a, 0, none⟩)] 50)).alloc (.cells #[.slice (some ⟨g, o, none⟩) (n + 1) c] 56)).alloc (.cells #[.pointer (some ⟨sb, i, none⟩)] 62)).alloc (.cells #[.int .i64 x0, .int .i64 x1, .int .u64 x2, .int .u64 x3] 119)).alloc (.cells #[.func (.func 66) #[] #[.pointer (some ⟨w.heap.size, 0, none⟩), .pointer (some ⟨w.heap.size + 1, 0, none⟩), .pointer (some ⟨w.heap.size + 1 + 1, 0, none⟩)]] 59)).alloc (.cells #[.func (.func 67) #[] #[.pointer (some ⟨w.heap.size + 1 + 1, 0, none⟩), .pointer (some ⟨w.heap.size + 1 + 1 + 1 + 1, 0, none⟩)]] 106)))) := fun h =>
      Cas_mk (S := S7 a b sb ns) (G := fun ok σ => ((i, l), tell σ i (if ok then 1 else 0))) hxv hL6 rfl (fun σ => by subst h; simp [S7, act]; rfl) (fun ok => bool_takes HT1 r5 ok)
    have H4 : Hid (¬ x0 = 0 → ¬ x0 = 1 → ¬ x0 = 2 → ¬ x0 = 3 → Calls Try.prog 72 #[.func (.func 66) #[] #[.pointer (some ⟨w.heap.size, 0, none⟩), .pointer (some ⟨w.heap.size + 1, 0, none⟩), .pointer (some ⟨w.heap.size + 1 + 1, 0, none⟩)]] ((((((w.alloc (.cells #[.pointer (some ⟨a, 0, none⟩)] 50)).alloc (.cells #[.slice (some ⟨g, o, none⟩) (n + 1) c] 56)).alloc (.cells #[.pointer (some ⟨sb, i, none⟩)] 62)).alloc (.cells #[.int .i64 x0, .int .i64 x1, .int .u64 x2, .int .u64 x3] 119)).alloc (.cells #[.func (.func 66) #[] #[.pointer (some ⟨w.heap.size, 0, none⟩), .pointer (some ⟨w.heap.size + 1, 0, none⟩), .pointer (some ⟨w.heap.size + 1 + 1, 0, none⟩)]] 59)).alloc (.cells #[.func (.func 67) #[] #[.pointer (some ⟨w.heap.size + 1 + 1, 0, none⟩), .pointer (some ⟨w.heap.size + 1 + 1 + 1 + 1, 0, none⟩)]] 106)) (Makes (S7 a b sb ns) (m + 1) (i, ⟨x0, x1, x2, x3⟩ :: l) L ((((((w.alloc (.cells #[.pointer (some ⟨a, 0, none⟩)] 50)).alloc (.cells #[.slice (some ⟨g, o, none⟩) (n + 1) c] 56)).alloc (.cells #[.pointer (some ⟨sb, i, none⟩)] 62)).alloc (.cells #[.int .i64 x0, .int .i64 x1, .int .u64 x2, .int .u64 x3] 119)).alloc (.cells #[.func (.func 66) #[] #[.pointer (some ⟨w.heap.size, 0, none⟩), .pointer (some ⟨w.heap.size + 1, 0, none⟩), .pointer (some ⟨w.heap.size + 1 + 1, 0, none⟩)]] 59)).alloc (.cells #[.func (.func 67) #[] #[.pointer (some ⟨w.heap.size + 1 + 1, 0, none⟩), .pointer (some ⟨w.heap.size + 1 + 1 + 1 + 1, 0, none⟩)]] 106)))) := fun h0 h1 h2 h3 =>
      Idle_mk (S := S7 a b sb ns) hL6 rfl (fun σ => by simp [S7, act, h0, h1, h2, h3]) HR1
    clear HR1 HT1 m0 m1 m2 m3 m4 m5 m05 hL6 r0 r1 r2 r4 r5 hxw hxv hL ho hl hwf IH
    by_cases e0 : x0 = 0
    · have HC := Lib.hid (H0.out e0)
      subst e0
      clear H0 H1 H2 H3 H4
      go_enter Try.func38, Try.ntmps38
      go_wp2_with fail
      refine HC.out.mono ?_
      rintro e w2 hmk
      obtain ⟨hg, v, rfl⟩ := HD.out e w2 hmk
      have HF := Lib.hid hg
      clear hg hmk HC HD
      go_wp2_with fail
      go_ret
      exact HF.out
    · by_cases e1 : x0 = 1
      · have HC := Lib.hid (H1.out e1)
        subst e1
        clear H0 H1 H2 H3 H4
        go_enter Try.func38, Try.ntmps38
        go_wp2_with fail
        refine HC.out.mono ?_
        rintro e w2 hmk
        obtain ⟨hg, v, rfl⟩ := HD.out e w2 hmk
        have HF := Lib.hid hg
        clear hg hmk HC HD
        go_wp2_with fail
        go_ret
        exact HF.out
      · by_cases e2 : x0 = 2
        · have HC := Lib.hid (H2.out e2)
          subst e2
          clear H0 H1 H2 H3 H4
          go_enter Try.func38, Try.ntmps38
          go_wp2_with fail
          refine HC.out.mono ?_
          rintro e w2 hmk
          obtain ⟨hg, v, rfl⟩ := HD.out e w2 hmk
          have HF := Lib.hid hg
          clear hg hmk HC HD
          go_wp2_with fail
          go_ret
          exact HF.out
        · by_cases e3 : x0 = 3
          · have HC := Lib.hid (H3.out e3)
            subst e3
            clear H0 H1 H2 H3 H4
            go_enter Try.func38, Try.ntmps38
            go_wp2_with fail
            refine HC.out.mono ?_
            rintro e w2 hmk
            obtain ⟨hg, v, rfl⟩ := HD.out e w2 hmk
            have HF := Lib.hid hg
            clear hg hmk HC HD
            go_wp2_with fail
            go_ret
            exact HF.out
          · have HC := Lib.hid (H4.out e0 e1 e2 e3)
            have f0 : (x0 == 0) = false := by simpa using e0
            have f1 : (x0 == 1) = false := by simpa using e1
            have f2 : (x0 == 2) = false := by simpa using e2
            have f3 : (x0 == 3) = false := by simpa using e3
            clear H0 H1 H2 H3 H4 e0 e1 e2 e3
            go_enter Try.func38, Try.ntmps38
            go_wp2_with fail
            refine HC.out.mono ?_
            rintro e w2 hmk
            obtain ⟨hg, v, rfl⟩ := HD.out e w2 hmk
            have HF := Lib.hid hg
            clear hg hmk HC HD
            go_wp2_with fail
            go_ret
            exact HF.out
end Go.Proofs.Ythllplocbciepaa.Cod.Seven
