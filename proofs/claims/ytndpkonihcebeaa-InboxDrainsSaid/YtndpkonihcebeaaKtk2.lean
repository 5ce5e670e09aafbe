/- Package stack, walked: Push, in plain words (over whatever system). -/
import Derived.Test.YtndpkonihcebeaaKtk
namespace Go.Proofs.Ytndpkonihcebeaa.Kod
open Go.RowKit Go.Proofs.Ytndpkonihcebeaa Go.Proofs.Ytndpkonihcebeaa.Cell Go.Proofs.Ytndpkonihcebeaa.Wd
set_option linter.unusedVariables false
set_option linter.unusedSimpArgs false
variable {S : Sys}

/-- What Push does, step by step. -/
structure PushK (S : Sys) (hd : Int) (lk : Int → Int) (i : Int) (kL : S.K) (kS : Int → S.K) (kC : Int → S.K) (T : St S.R → Option (S.K × St S.R)) : Prop where
  nL : S.nil kL = false
  nS : ∀ h, S.nil (kS h) = false
  nC : ∀ h, S.nil (kC h) = false
  sL : ∀ σ, S.next kL σ = some (kS (σ.ld hd).1, (σ.ld hd).2)
  sS : ∀ h σ, S.next (kS h) σ = some (kC h, σ.sto (lk i) (ix h + 1))
  sC : ∀ h σ, S.next (kC h) σ = if (σ.cas hd h (turnTo h i)).1 then T (σ.cas hd h (turnTo h i)).2 else some (kL, (σ.cas hd h (turnTo h i)).2)
variable {hd i : Int} {fl : FuncId} {lk : Int → Int} {kL : S.K} {kS : Int → S.K} {kC : Int → S.K} {T : St S.R → Option (S.K × St S.R)}

set_option maxRecDepth 100000 in
set_option maxHeartbeats 1000000 in
theorem push3_takes {m : Nat} {vt : Value} {w : World} {L : Lay} {bs bi bt : Nat}
    (hpush : ∀ w' L' n (σ : St S.R) rs, Ext S w L w' L' → Inv S n σ rs L' w' → Calls Try.prog 117 #[stk S hd fl, .int .i64 i, vt] w' (Makes S m kL L' w'))
    (ht : Takes S m #[] T vt w L) (hs : SBox S w L bs hd fl) (h1 : Box S w L bi (.int .i64 i)) (h2 : Box S w L bt vt) (ok : Bool) :
    Takes S m #[.bool ok] (fun σ => if ok then T σ else some (kL, σ)) (.func (.func 144) #[] #[.pointer (some ⟨bs, 0, none⟩), .pointer (some ⟨bi, 0, none⟩), .pointer (some ⟨bt, 0, none⟩)]) w L := by
  refine ⟨_, _, rfl, enters_of Try.func144 (by kernel_rfl) rfl, fun q w' L' σ rs y hx hv hy => ?_⟩
  obtain ⟨f, cap, rfl, hf, hc⟩ := ht
  have hs' := hs.later hx
  have c0 := hs'.c0
  have c1 := hs'.c1
  have c2 := hs'.c2
  have c3 := (h1.later hx).cell
  have c4 := (h2.later hx).cell
  have hen : ∀ (args : Array Value) (w : World), (callFunc f args).run Try.prog w = .ok (.enter f args) w := hf
  cases ok with
  | true =>
    have HC : Hid (Calls Try.prog f cap w' (Gives S m q y rs L' w')) := by have h := hc q w' L' σ rs y hx hv (by simpa using hy); rw [Array.empty_append] at h; exact h
    clear hpush hc hs h1 h2 hx hv hs' hy
    go_enter Try.func144, Try.ntmps144
    go_wp2_with fail
    refine HC.out.mono ?_
    rintro e w2 hg
    obtain ⟨v, rfl⟩ := hg.ret
    have HF := Lib.hid hg
    clear hg HC
    go_wp2_with fail
    go_ret
    exact HF.out
  | false =>
    obtain rfl : (kL, σ) = y := by simpa using hy
    have HC : Hid (Calls Try.prog 117 #[.agg #[.pointer (some ⟨S.a, 0, none⟩), .int .i64 hd, .func (.func fl) #[] #[]], .int .i64 i, .func (.func f) #[] cap] w' (Gives S m q (kL, σ) rs L' w')) := (hpush w' L' q σ rs hx hv).mono fun e w2 hm => hm.gives' (Made.refl _) hv
    clear hpush hc hs h1 h2 hx hv hs' hy
    go_enter Try.func144, Try.ntmps144
    go_wp2_with fail
    refine HC.out.mono ?_
    rintro e w2 hg
    obtain ⟨v, rfl⟩ := hg.ret
    have HF := Lib.hid hg
    clear hg HC
    go_wp2_with fail
    go_ret
    exact HF.out
set_option maxRecDepth 100000 in
set_option maxHeartbeats 2000000 in
theorem push2_takes {m : Nat} {h : Int} {vt : Value} {w : World} {L : Lay} {bs bh bi bt : Nat} (P : PushK S hd lk i kL kS kC T) (hU : U64 h) (hi64 : I64 i)
    (hpush : ∀ w' L' n (σ : St S.R) rs, Ext S w L w' L' → Inv S n σ rs L' w' → Calls Try.prog 117 #[stk S hd fl, .int .i64 i, vt] w' (Makes S m kL L' w'))
    (ht : Takes S m #[] T vt w L) (hs : SBox S w L bs hd fl) (h0 : Box S w L bh (.int .u64 h)) (h1 : Box S w L bi (.int .i64 i)) (h2 : Box S w L bt vt) :
    Takes S m #[] (fun σ => some (kC h, σ)) (.func (.func 142) #[] #[.pointer (some ⟨bs, 0, none⟩), .pointer (some ⟨bh, 0, none⟩), .pointer (some ⟨bi, 0, none⟩), .pointer (some ⟨bt, 0, none⟩)]) w L := by
  refine ⟨_, _, rfl, enters_of Try.func142 (by kernel_rfl) rfl, fun q w' L' σ rs y hx hv hy => ?_⟩
  obtain rfl : (kC h, σ) = y := by simpa using hy
  have hs' := hs.later hx
  have b0 := h0.later hx
  have b1 := h1.later hx
  have b2 := h2.later hx
  have c0 := hs'.c0
  have c1 := hs'.c1
  have ch := b0.cell
  have ci := b1.cell
  have hcas : ∀ w1, Made w' w1 → Calls Try.prog 112 #[.pointer (some ⟨S.a, 0, none⟩), .int .i64 hd, .int .u64 h, .int .u64 (turnTo h i), .func (.func 144) #[] #[.pointer (some ⟨bs, 0, none⟩), .pointer (some ⟨bi, 0, none⟩), .pointer (some ⟨bt, 0, none⟩)]] w1 (Gives S m q (kC h, σ) rs L' w') := fun w1 hm1 => by
    have e1 := Ext.of_made (S := S) (L := L') hm1
    refine (Cas_mk (S := S) (k := kC h) (G := fun ok σ => if ok then T σ else some (kL, σ)) (turnTo_wide h i) (fun k hk => (hv.later hm1).mut_lt hk) (P.nC h) (P.sC h) (fun ok => push3_takes (fun w2 L2 n σ rs hx2 hi2 => hpush w2 L2 n σ rs ((hx.trans e1).trans hx2) hi2) (ht.later (hx.trans e1)) (hs'.later e1) (b1.later e1) (b2.later e1) ok)).mono ?_
    intro e w2 hmk
    exact hmk.gives hm1 hv
  have HT : Hid (Calls Try.prog 143 #[.int .u64 h, .int .i64 i] w'.drew fun e w1 => e = .returned (.int .u64 (turnTo h i)) ∧ w1.cell? ⟨bs, 0, none⟩ = some (.pointer (some ⟨S.a, 0, none⟩)) ∧ w1.cell? ⟨bs, 1, none⟩ = some (.int .i64 hd) ∧ w1.cell? ⟨bh, 0, none⟩ = some (.int .u64 h) ∧ w1.cell? ⟨bi, 0, none⟩ = some (.int .i64 i) ∧ Hid (Calls Try.prog 112 #[.pointer (some ⟨S.a, 0, none⟩), .int .i64 hd, .int .u64 h, .int .u64 (turnTo h i), .func (.func 144) #[] #[.pointer (some ⟨bs, 0, none⟩), .pointer (some ⟨bi, 0, none⟩), .pointer (some ⟨bt, 0, none⟩)]] w1 (Gives S m q (kC h, σ) rs L' w'))) :=
    (turned_c h i hU hi64 w'.drew).mono fun e w1 ⟨he, hm⟩ => by
      have hm1 : Made w' w1 := Made.trans (Made.drewN w' 1) hm
      have e1 := Ext.of_made (S := S) (L := L') hm1
      exact ⟨he, (hs'.later e1).c0, (hs'.later e1).c1, (b0.later e1).cell, (b1.later e1).cell, hcas w1 hm1⟩
  have HG : Hid (∀ e w2, Gives S m q (kC h, σ) rs L' w' e w2 → w2.cell? ⟨bs, 0, none⟩ = some (.pointer (some ⟨S.a, 0, none⟩)) ∧ w2.cell? ⟨bs, 1, none⟩ = some (.int .i64 hd) ∧ w2.cell? ⟨bh, 0, none⟩ = some (.int .u64 h) ∧ w2.cell? ⟨bi, 0, none⟩ = some (.int .i64 i) ∧ ∃ v, e = .returned v) := by
    rintro e w2 ⟨v, L2, rfl, hx2, _⟩
    exact ⟨(hs'.later hx2).c0, (hs'.later hx2).c1, (b0.later hx2).cell, (b1.later hx2).cell, v, rfl⟩
  have hmf : ∀ (fn : Fn) (first cap : Array Value) (w : World), (Instr.makeFunc fn first cap).run Try.prog w = .ok (.func fn first cap) w := fun _ _ _ _ => rfl
  clear hcas hpush ht hs h0 h1 h2 hx hv hs' b0 b1 b2 P hU hi64 hy
  rw [Array.empty_append]
  go_enter Try.func142, Try.ntmps142
  go_wp2_with fail
  go_region_held3 (fun w1 => w1.cell? ⟨bs, 0, none⟩ = some (.pointer (some ⟨S.a, 0, none⟩)) ∧ w1.cell? ⟨bs, 1, none⟩ = some (.int .i64 hd) ∧ w1.cell? ⟨bh, 0, none⟩ = some (.int .u64 h) ∧ w1.cell? ⟨bi, 0, none⟩ = some (.int .i64 i)) (first | (refine ⟨?_, ?_, ?_, ?_⟩ <;> first | assumption | simpa using c0 | simpa using c1 | simpa using ch | simpa using ci)) (first | (go_at_call 143; refine HT.out.mono ?_; rintro e w1 ⟨rfl, d0, d1, d2, d3, HC2⟩) | (go_at_call 112; refine HC2.out.mono ?_; rintro e w2 hg; obtain ⟨e0, e1, e2, e3, v, rfl⟩ := HG.out _ _ hg))
  all_goals
    go_wp2_with fail
    go_ret
    exact hg
set_option maxRecDepth 100000 in
set_option maxHeartbeats 2000000 in
theorem push1_takes {m : Nat} {h : Int} {vt : Value} {w : World} {L : Lay} {bs bi bt : Nat} (P : PushK S hd lk i kL kS kC T) (hU : U64 h) (hi0 : 0 ≤ i) (hi1 : i ≤ 4294967295) (hlk : LinkOK fl lk)
    (hpush : ∀ w' L' n (σ : St S.R) rs, Ext S w L w' L' → Inv S n σ rs L' w' → Calls Try.prog 117 #[stk S hd fl, .int .i64 i, vt] w' (Makes S m kL L' w'))
    (ht : Takes S m #[] T vt w L) (hs : SBox S w L bs hd fl) (h1 : Box S w L bi (.int .i64 i)) (h2 : Box S w L bt vt) :
    Takes S m #[.int .u64 h] (fun σ => some (kS h, σ)) (.func (.func 141) #[] #[.pointer (some ⟨bs, 0, none⟩), .pointer (some ⟨bi, 0, none⟩), .pointer (some ⟨bt, 0, none⟩)]) w L := by
  refine ⟨_, _, rfl, enters_of Try.func141 (by kernel_rfl) rfl, fun q w' L' σ rs y hx hv hy => ?_⟩
  obtain rfl : (kS h, σ) = y := by simpa using hy
  have hs' := hs.later hx
  have b1 := h1.later hx
  have b2 := h2.later hx
  have hlo := ix_lo h
  have ma : Made w' (w'.alloc (.cells #[.int .u64 h] 58)) := (Made.refl w').alloc (Nat.le_refl _) _
  have bh0 : Box S (w'.alloc (.cells #[.int .u64 h] 58)) L' w'.heap.size (.int .u64 h) := Box.new (fun k hk => hv.mut_lt hk) rfl
  have ea := Ext.of_made (S := S) (L := L') ma
  have c0 := (hs'.later ea).c0
  have c2 := (hs'.later ea).c2
  have ci := (b1.later ea).cell
  have ch := bh0.cell
  have HHD : Hid (Calls Try.prog 56 #[.int .u64 h] (w'.alloc (.cells #[.int .u64 h] 58)).drew fun e w1 => e = .returned (.agg #[.int .i64 (ct h), .int .i64 (ix h)]) ∧ w1.cell? ⟨bs, 0, none⟩ = some (.pointer (some ⟨S.a, 0, none⟩)) ∧ w1.cell? ⟨bs, 2, none⟩ = some (.func (.func fl) #[] #[]) ∧ w1.cell? ⟨bi, 0, none⟩ = some (.int .i64 i) ∧ w1.cell? ⟨w'.heap.size, 0, none⟩ = some (.int .u64 h) ∧
      Hid (Calls Try.prog 98 #[.pointer (some ⟨S.a, 0, none⟩), .int .i64 (lk i), .int .u64 (ix h + 1), .func (.func 142) #[] #[.pointer (some ⟨bs, 0, none⟩), .pointer (some ⟨w'.heap.size, 0, none⟩), .pointer (some ⟨bi, 0, none⟩), .pointer (some ⟨bt, 0, none⟩)]] w1 fun e w2 => Hid (Gives S m q (kS h, σ) rs L' w' e w2) ∧ w2.cell? ⟨bs, 0, none⟩ = some (.pointer (some ⟨S.a, 0, none⟩)) ∧ w2.cell? ⟨bs, 2, none⟩ = some (.func (.func fl) #[] #[]) ∧ w2.cell? ⟨bi, 0, none⟩ = some (.int .i64 i) ∧ w2.cell? ⟨w'.heap.size, 0, none⟩ = some (.int .u64 h) ∧ ∃ v, e = .returned v)) :=
    (HeadOf_i h hU _).mono fun e w1 ⟨he, hm⟩ => by
      have hm2 : Made (w'.alloc (.cells #[.int .u64 h] 58)) w1 := Made.trans (Made.drewN _ 1) hm
      have hm1 : Made w' w1 := Made.trans ma hm2
      have e1 := Ext.of_made (S := S) (L := L') hm1
      have bh := bh0.later (Ext.of_made (S := S) (L := L') hm2)
      refine ⟨he, (hs'.later e1).c0, (hs'.later e1).c2, (b1.later e1).cell, bh.cell, ?_⟩
      refine (Store_mk (S := S) (k := kS h) (G := fun σ => some (kC h, σ)) (by omega) (fun k hk => (hv.later hm1).mut_lt hk) (P.nS h) (P.sS h) (push2_takes P hU (by unfold I64; omega) (fun w4 L4 n σ rs hx4 hi4 => hpush w4 L4 n σ rs ((hx.trans e1).trans hx4) hi4) (ht.later (hx.trans e1)) (hs'.later e1) bh (b1.later e1) (b2.later e1))).mono ?_
      intro e w4 hmk
      have hg := hmk.gives hm1 hv
      obtain ⟨v, rfl, hm4, _⟩ := hmk
      have e4 := Ext.of_made (S := S) (L := L') hm4
      exact ⟨hg, (hs'.later (e1.trans e4)).c0, (hs'.later (e1.trans e4)).c2, (b1.later (e1.trans e4)).cell, (bh.later e4).cell, v, rfl⟩
  have HLK := Lib.hid (hlk.calls i)
  have hen : ∀ (args : Array Value) (w : World), (callFunc fl args).run Try.prog w = .ok (.enter fl args) w := hlk.enters
  have hmf : ∀ (fn : Fn) (first cap : Array Value) (w : World), (Instr.makeFunc fn first cap).run Try.prog w = .ok (.func fn first cap) w := fun _ _ _ _ => rfl
  have hfd := field1
  have hw1 : IntKind.i64.wrap (ix h + 1) = ix h + 1 := by rw [IntKind.wrap_i64]; omega
  have hw2 : IntKind.u64.wrap (ix h + 1) = ix h + 1 := by rw [IntKind.wrap_u64]; omega
  clear hpush ht hs h1 h2 hx hv hs' b1 b2 P hU hlk ma bh0 ea hy
  go_enter Try.func141, Try.ntmps141
  go_wp2_with fail
  generalize w'.alloc (.cells #[.int .u64 h] 58) = wb at *
  generalize w'.heap.size = g0 at *
  go_region_held3 (fun w1 => w1.cell? ⟨bs, 0, none⟩ = some (.pointer (some ⟨S.a, 0, none⟩)) ∧ w1.cell? ⟨bs, 2, none⟩ = some (.func (.func fl) #[] #[]) ∧ w1.cell? ⟨bi, 0, none⟩ = some (.int .i64 i) ∧ w1.cell? ⟨g0, 0, none⟩ = some (.int .u64 h)) (first | (refine ⟨?_, ?_, ?_, ?_⟩ <;> first | assumption | simpa using c0 | simpa using c2 | simpa using ci | simpa using ch)) (first | (go_at_fn fl; refine (HLK.out _ hi0 hi1).mono ?_; rintro e w3 ⟨rfl, rfl⟩) | (go_at_call 56; refine HHD.out.mono ?_; rintro e w1 ⟨rfl, d0, d1, d2, d3, HC2⟩) | (go_at_call 98; refine HC2.out.mono ?_; rintro e w4 ⟨HG4, e0, e2, e3, e4, v, rfl⟩))
  all_goals
    go_wp2_with fail
    go_ret
    exact HG4.out
set_option maxRecDepth 100000 in
set_option maxHeartbeats 2000000 in
theorem push_walk {m : Nat} {f : FuncId} {cap : Array Value} {w : World} {L : Lay} (h : Calls Try.prog 42 #[.pointer (some ⟨S.a, 0, none⟩), .int .i64 hd, .func (.func 141) #[] #[.pointer (some ⟨w.heap.size, 0, none⟩), .pointer (some ⟨w.heap.size + 1, 0, none⟩), .pointer (some ⟨w.heap.size + 1 + 1, 0, none⟩)]] (((w.alloc (.cells #[.pointer (some ⟨S.a, 0, none⟩), .int .i64 hd, .func (.func fl) #[] #[]] 29)).alloc (.cells #[.int .i64 i] 3)).alloc (.cells #[.func (.func f) #[] cap] 39)) (Makes S m kL L (((w.alloc (.cells #[.pointer (some ⟨S.a, 0, none⟩), .int .i64 hd, .func (.func fl) #[] #[]] 29)).alloc (.cells #[.int .i64 i] 3)).alloc (.cells #[.func (.func f) #[] cap] 39)))) :
    Calls Try.prog 117 #[.agg #[.pointer (some ⟨S.a, 0, none⟩), .int .i64 hd, .func (.func fl) #[] #[]], .int .i64 i, .func (.func f) #[] cap] w (Makes S m kL L w) := by
  have HM : Hid (Made w (((w.alloc (.cells #[.pointer (some ⟨S.a, 0, none⟩), .int .i64 hd, .func (.func fl) #[] #[]] 29)).alloc (.cells #[.int .i64 i] 3)).alloc (.cells #[.func (.func f) #[] cap] 39))) := (((Made.refl w).alloc (Nat.le_refl _) _).alloc (by simp only [World.size_alloc]; omega) _).alloc (by simp only [World.size_alloc]; omega) _
  have HC := Lib.hid h
  have hmf : ∀ (fn : Fn) (first cap : Array Value) (w : World), (Instr.makeFunc fn first cap).run Try.prog w = .ok (.func fn first cap) w := fun _ _ _ _ => rfl
  clear h
  go_enter Try.func117, Try.ntmps117
  go_wp2_with fail
  refine HC.out.mono ?_
  rintro e w3 ⟨v, rfl, hm3, hr3⟩
  have HF : Hid (Makes S m kL L w (.returned v) w3) := ⟨v, rfl, Made.trans HM.out hm3, hr3⟩
  clear hm3 hr3 HC HM
  go_wp2_with fail
  go_ret
  exact HF.out
theorem Push_c (P : PushK S hd lk i kL kS kC T) (hlk : LinkOK fl lk) (hi0 : 0 ≤ i) (hi1 : i ≤ 4294967295) : ∀ (m : Nat) (vt : Value) (w : World) (L : Lay) (n : Nat) (σ : St S.R) (rs : List Value), Inv S n σ rs L w →
    Takes S m #[] T vt w L → Calls Try.prog 117 #[stk S hd fl, .int .i64 i, vt] w (Makes S m kL L w) := by
  intro m
  induction m with
  | zero =>
    intro vt w L n σ rs hi ht
    obtain ⟨f, cap, rfl⟩ := ht.func
    exact push_walk (Load_shape P.nL)
  | succ m ih =>
    intro vt w L n σ rs hi ht
    obtain ⟨f, cap, rfl⟩ := ht.func
    have m0 : Made w (w.alloc (.cells #[.pointer (some ⟨S.a, 0, none⟩), .int .i64 hd, .func (.func fl) #[] #[]] 29)) := (Made.refl w).alloc (Nat.le_refl _) _
    have m1 : Made (w.alloc (.cells #[.pointer (some ⟨S.a, 0, none⟩), .int .i64 hd, .func (.func fl) #[] #[]] 29)) ((w.alloc (.cells #[.pointer (some ⟨S.a, 0, none⟩), .int .i64 hd, .func (.func fl) #[] #[]] 29)).alloc (.cells #[.int .i64 i] 3)) := (Made.refl _).alloc (Nat.le_refl _) _
    have m2 : Made ((w.alloc (.cells #[.pointer (some ⟨S.a, 0, none⟩), .int .i64 hd, .func (.func fl) #[] #[]] 29)).alloc (.cells #[.int .i64 i] 3)) (((w.alloc (.cells #[.pointer (some ⟨S.a, 0, none⟩), .int .i64 hd, .func (.func fl) #[] #[]] 29)).alloc (.cells #[.int .i64 i] 3)).alloc (.cells #[.func (.func f) #[] cap] 39)) := (Made.refl _).alloc (Nat.le_refl _) _
    have m3 := Made.trans (Made.trans m0 m1) m2
    have sb : SBox S (((w.alloc (.cells #[.pointer (some ⟨S.a, 0, none⟩), .int .i64 hd, .func (.func fl) #[] #[]] 29)).alloc (.cells #[.int .i64 i] 3)).alloc (.cells #[.func (.func f) #[] cap] 39)) L w.heap.size hd fl := ((SBox.new (fun k hk => hi.mut_lt hk) rfl).later (Ext.of_made m1)).later (Ext.of_made m2)
    have bi : Box S (((w.alloc (.cells #[.pointer (some ⟨S.a, 0, none⟩), .int .i64 hd, .func (.func fl) #[] #[]] 29)).alloc (.cells #[.int .i64 i] 3)).alloc (.cells #[.func (.func f) #[] cap] 39)) L (w.heap.size + 1) (.int .i64 i) := (Box.new (fun k hk => (hi.later m0).mut_lt hk) (by simp only [World.size_alloc])).later (Ext.of_made m2)
    have bt : Box S (((w.alloc (.cells #[.pointer (some ⟨S.a, 0, none⟩), .int .i64 hd, .func (.func fl) #[] #[]] 29)).alloc (.cells #[.int .i64 i] 3)).alloc (.cells #[.func (.func f) #[] cap] 39)) L (w.heap.size + 1 + 1) (.func (.func f) #[] cap) := Box.new (fun k hk => (hi.later (Made.trans m0 m1)).mut_lt hk) (by simp only [World.size_alloc])
    refine push_walk (Load_mk (S := S) (k := kL) (i := hd) (G := fun h σ => some (kS h, σ)) (fun k hk => (hi.later m3).mut_lt hk) P.nL P.sL (fun h u0 u1 => ?_))
    exact push1_takes P ⟨u0, u1⟩ hi0 hi1 hlk (fun w' L' n σ rs hx hi' => ih _ w' L' n σ rs hi' (ht.lower.later ((Ext.of_made m3).trans hx))) (ht.lower.later (Ext.of_made m3)) sb bi bt
end Go.Proofs.Ytndpkonihcebeaa.Kod
