/- Package inbox, walked: lay and help (over whatever system). -/
import Derived.Test.YtndpkonihcebeaaBoxB
namespace Go.Proofs.Ytndpkonihcebeaa.Kod
open Go.RowKit Go.Proofs.Ytndpkonihcebeaa Go.Proofs.Ytndpkonihcebeaa.Cell Go.Proofs.Ytndpkonihcebeaa.Wd
set_option linter.unusedVariables false
set_option linter.unusedSimpArgs false
variable {S : Sys} {hd hq : Int} {fl fd : FuncId} {cd : Array Value} {lk : Int → Int}

/-- What Put does, step by step. -/
structure PutK (S : Sys) (hd hq : Int) (lk : Int → Int) (t : Int) (kL : S.K) (kD kS kC kN : Int → S.K) (kM : Int → Int → S.K) (fL : Int → S.K) (fS fC : Int → Int → S.K) (T : St S.R → Option (S.K × St S.R)) : Prop where
  nL : S.nil kL = false
  nS : ∀ h, S.nil (kS h) = false
  nC : ∀ h, S.nil (kC h) = false
  nN : ∀ h, S.nil (kN h) = false
  nM : ∀ h x, S.nil (kM h x) = false
  sL : ∀ σ, S.next kL σ = some (if ix (σ.ld hd).1 < 0 then kS (σ.ld hd).1 else kD (σ.ld hd).1, (σ.ld hd).2)
  sS : ∀ h σ, S.next (kS h) σ = some (kC h, σ.sto (lk t) (ix h + 1))
  sC : ∀ h σ, S.next (kC h) σ = if (σ.cas hd h (turnTo h t)).1 then T (σ.cas hd h (turnTo h t)).2 else some (kL, (σ.cas hd h (turnTo h t)).2)
  sN : ∀ h σ, S.next (kN h) σ = some (kM h (σ.ld (lk (ix h))).1, (σ.ld (lk (ix h))).2)
  sM : ∀ h x σ, S.next (kM h x) σ = some (if (σ.cas hd h (turnTo h (nx x))).1 then fL (ix h) else kL, (σ.cas hd h (turnTo h (nx x))).2)
  free : ∀ i, PushK S hq lk i (fL i) (fS i) (fC i) (fun σ => some (kL, σ))
variable {t : Int} {kL : S.K} {kD kS kC kN : Int → S.K} {kM : Int → Int → S.K} {fL : Int → S.K} {fS fC : Int → Int → S.K} {T : St S.R → Option (S.K × St S.R)}

set_option maxRecDepth 100000 in
set_option maxHeartbeats 1000000 in
theorem lay2_takes {m : Nat} {va vt : Value} {w : World} {L : Lay} {ba bt : Nat} (ha : Takes S m #[] (fun σ => some (kL, σ)) va w L) (ht : Takes S m #[] T vt w L) (h1 : Box S w L ba va) (h2 : Box S w L bt vt) (ok : Bool) :
    Takes S m #[.bool ok] (fun σ => if ok then T σ else some (kL, σ)) (.func (.func 114) #[] #[.pointer (some ⟨ba, 0, none⟩), .pointer (some ⟨bt, 0, none⟩)]) w L := by
  refine ⟨_, _, rfl, enters_of Try.func114 (by kernel_rfl) rfl, fun q w' L' σ rs y hx hv hy => ?_⟩
  have c1 := (h1.later hx).cell
  have c2 := (h2.later hx).cell
  cases ok with
  | true =>
    obtain ⟨ft, ct, rfl, hft, hc⟩ := ht
    have hen : ∀ (args : Array Value) (w : World), (callFunc ft args).run Try.prog w = .ok (.enter ft args) w := hft
    have HC : Hid (Calls Try.prog ft ct w' (Gives S m q y rs L' w')) := by have h := hc q w' L' σ rs y hx hv (by simpa using hy); rw [Array.empty_append] at h; exact h
    clear hc ha h1 h2 hx hv hy
    go_enter Try.func114, Try.ntmps114
    go_wp2_with fail
    refine HC.out.mono ?_
    rintro e w2 hg
    obtain ⟨v, rfl⟩ := hg.ret
    have HF := Lib.hid hg
    clear hg HC
    go_wp2_with fail
    go_ret
    exact HF.out
  | false =>
    obtain ⟨ft, ct, rfl, hft, hc⟩ := ha
    have hen : ∀ (args : Array Value) (w : World), (callFunc ft args).run Try.prog w = .ok (.enter ft args) w := hft
    have HC : Hid (Calls Try.prog ft ct w' (Gives S m q y rs L' w')) := by have h := hc q w' L' σ rs y hx hv (by simpa using hy); rw [Array.empty_append] at h; exact h
    clear hc ht h1 h2 hx hv hy
    go_enter Try.func114, Try.ntmps114
    go_wp2_with fail
    refine HC.out.mono ?_
    rintro e w2 hg
    obtain ⟨v, rfl⟩ := hg.ret
    have HF := Lib.hid hg
    clear hg HC
    go_wp2_with fail
    go_ret
    exact HF.out
set_option maxRecDepth 100000 in
set_option maxHeartbeats 1000000 in
theorem lay1_takes {m : Nat} {h : Int} {va vt : Value} {w : World} {L : Lay} {bs br bi ba bt : Nat} (P : PutK S hd hq lk t kL kD kS kC kN kM fL fS fC T) (hU : U64 h) (ht64 : I64 t)
    (ha : Takes S m #[] (fun σ => some (kL, σ)) va w L) (ht : Takes S m #[] T vt w L) (hs : BB S w L bs hd hq fl fd cd) (hr : Box S w L br (.int .u64 h)) (hi : Box S w L bi (.int .i64 t)) (h1 : Box S w L ba va) (h2 : Box S w L bt vt) :
    Takes S m #[] (fun σ => some (kC h, σ)) (.func (.func 113) #[] #[.pointer (some ⟨bs, 0, none⟩), .pointer (some ⟨br, 0, none⟩), .pointer (some ⟨bi, 0, none⟩), .pointer (some ⟨ba, 0, none⟩), .pointer (some ⟨bt, 0, none⟩)]) w L := by
  refine ⟨_, _, rfl, enters_of Try.func113 (by kernel_rfl) rfl, fun q w' L' σ rs y hx hv hy => ?_⟩
  obtain rfl : (kC h, σ) = y := by simpa using hy
  obtain ⟨d0, d1, d2, d3, d4, d5, d6⟩ := (hs.later hx).cells
  have cr := (hr.later hx).cell
  have ci := (hi.later hx).cell
  have HC : Hid (Calls Try.prog 81 #[bxv S hd hq fl fd cd, .int .u64 h, .int .i64 t, .func (.func 114) #[] #[.pointer (some ⟨ba, 0, none⟩), .pointer (some ⟨bt, 0, none⟩)]] w' (Gives S m q (kC h, σ) rs L' w')) := by
    refine (turn_walk (S := S) (m := m + 1) (k := kC h) (L := L') hU ht64 fun w1 hm1 => ?_).mono fun e w2 hm => hm.gives (Made.refl _) hv
    have e1 := hx.trans (Ext.of_made (S := S) (L := L') hm1)
    exact Cas_mk (S := S) (k := kC h) (G := fun ok σ => if ok then T σ else some (kL, σ)) (turnTo_wide h t) (fun k hk => (hv.later hm1).mut_lt hk) (P.nC h) (P.sC h) (fun ok => lay2_takes (ha.later e1) (ht.later e1) (h1.later e1) (h2.later e1) ok)
  have hmf : ∀ (fn : Fn) (first cap : Array Value) (w : World), (Instr.makeFunc fn first cap).run Try.prog w = .ok (.func fn first cap) w := fun _ _ _ _ => rfl
  clear ha ht hs hr hi h1 h2 hx hv hy P hU ht64
  rw [Array.empty_append]
  unfold bxv at HC
  unfold bxr at HC
  go_enter Try.func113, Try.ntmps113
  go_wp2_with fail
  refine HC.out.mono ?_
  rintro e w2 hg
  obtain ⟨v, rfl⟩ := hg.ret
  have HF := Lib.hid hg
  clear hg HC
  go_wp2_with fail
  go_ret
  exact HF.out
/-- Where lay goes on. -/
def laW (S : Sys) (hd hq : Int) (fl fd : FuncId) (cd : Array Value) (w : World) (t h : Int) (va vt : Value) : World := ((((w.alloc (.cells (bxr S hd hq fl fd cd) 31)).alloc (.cells #[.int .i64 t] 3)).alloc (.cells #[.int .u64 h] 58)).alloc (.cells #[va] 39)).alloc (.cells #[vt] 39)
/-- Boxes, made one behind the other. -/
theorem Box.step {w : World} {L : Lay} {v : Value} {ty : TypeId} (hL : ∀ k, Mut S L k → k < w.heap.size) : (∀ k, Mut S L k → k < (w.alloc (.cells #[v] ty)).heap.size) ∧ Box S (w.alloc (.cells #[v] ty)) L w.heap.size v ∧ Made w (w.alloc (.cells #[v] ty)) ∧ Ext S w L (w.alloc (.cells #[v] ty)) L := by
  have m : Made w (w.alloc (.cells #[v] ty)) := (Made.refl w).alloc (Nat.le_refl _) _
  exact ⟨fun k hk => Nat.lt_of_lt_of_le (hL k hk) m.size, Box.new hL rfl, m, Ext.of_made m⟩
theorem BB.step {w : World} {L : Lay} (hL : ∀ k, Mut S L k → k < w.heap.size) : (∀ k, Mut S L k → k < (w.alloc (.cells (bxr S hd hq fl fd cd) 31)).heap.size) ∧ BB S (w.alloc (.cells (bxr S hd hq fl fd cd) 31)) L w.heap.size hd hq fl fd cd ∧ Made w (w.alloc (.cells (bxr S hd hq fl fd cd) 31)) ∧ Ext S w L (w.alloc (.cells (bxr S hd hq fl fd cd) 31)) L := by
  have m : Made w (w.alloc (.cells (bxr S hd hq fl fd cd) 31)) := (Made.refl w).alloc (Nat.le_refl _) _
  exact ⟨fun k hk => Nat.lt_of_lt_of_le (hL k hk) m.size, BB.new hL, m, Ext.of_made m⟩
theorem laW_boxes {w : World} {L : Lay} (t h : Int) (va vt : Value) (hL : ∀ k, Mut S L k → k < w.heap.size) : Made w (laW S hd hq fl fd cd w t h va vt) ∧ BB S (laW S hd hq fl fd cd w t h va vt) L w.heap.size hd hq fl fd cd ∧ Box S (laW S hd hq fl fd cd w t h va vt) L (w.heap.size + 1) (.int .i64 t) ∧ Box S (laW S hd hq fl fd cd w t h va vt) L (w.heap.size + 1 + 1) (.int .u64 h) ∧ Box S (laW S hd hq fl fd cd w t h va vt) L (w.heap.size + 1 + 1 + 1) va ∧ Box S (laW S hd hq fl fd cd w t h va vt) L (w.heap.size + 1 + 1 + 1 + 1) vt := by
  obtain ⟨z0, b0, m0, e0⟩ := BB.step (hd := hd) (hq := hq) (fl := fl) (fd := fd) (cd := cd) hL
  obtain ⟨z1, b1, m1, e1⟩ := Box.step (v := .int .i64 t) (ty := 3) z0
  obtain ⟨z2, b2, m2, e2⟩ := Box.step (v := .int .u64 h) (ty := 58) z1
  obtain ⟨z3, b3, m3, e3⟩ := Box.step (v := va) (ty := 39) z2
  obtain ⟨z4, b4, m4, e4⟩ := Box.step (v := vt) (ty := 39) z3
  simp only [World.size_alloc] at b1 b2 b3 b4
  exact ⟨Made.trans m0 (Made.trans m1 (Made.trans m2 (Made.trans m3 m4))), (((b0.later e1).later e2).later e3).later e4, ((b1.later e2).later e3).later e4, (b2.later e3).later e4, b3.later e4, b4⟩
set_option maxRecDepth 100000 in
set_option maxHeartbeats 1000000 in
theorem Lay_walk {m : Nat} {k : S.K} {h : Int} {va vt : Value} {w : World} {L : Lay} (hsa : ∃ f cap, va = .func (.func f) #[] cap) (hst : ∃ f cap, vt = .func (.func f) #[] cap) (hlk : LinkOK fl lk) (hL : ∀ k, Mut S L k → k < w.heap.size) (ht0 : 0 ≤ t) (ht1 : t ≤ 4294967295)
    (hc : ∀ w1, Made (laW S hd hq fl fd cd w t h va vt) w1 → Calls Try.prog 98 #[.pointer (some ⟨S.a, 0, none⟩), .int .i64 (lk t), .int .u64 (ix h + 1), .func (.func 113) #[] #[.pointer (some ⟨w.heap.size, 0, none⟩), .pointer (some ⟨w.heap.size + 1 + 1, 0, none⟩), .pointer (some ⟨w.heap.size + 1, 0, none⟩), .pointer (some ⟨w.heap.size + 1 + 1 + 1, 0, none⟩), .pointer (some ⟨w.heap.size + 1 + 1 + 1 + 1, 0, none⟩)]] w1 (Makes S m k L w1)) :
    Calls Try.prog 88 #[bxv S hd hq fl fd cd, .int .i64 t, .int .u64 h, .int .i64 (ix h), va, vt] w (Makes S m k L w) := by
  obtain ⟨fa, ca, rfl⟩ := hsa
  obtain ⟨ft, ct, rfl⟩ := hst
  obtain ⟨mm, hb, h1, h2, h3, h4⟩ := laW_boxes (S := S) (hd := hd) (hq := hq) (fl := fl) (fd := fd) (cd := cd) t h (.func (.func fa) #[] ca) (.func (.func ft) #[] ct) hL
  have md : Made (laW S hd hq fl fd cd w t h (.func (.func fa) #[] ca) (.func (.func ft) #[] ct)) (laW S hd hq fl fd cd w t h (.func (.func fa) #[] ca) (.func (.func ft) #[] ct)).drew := Made.drewN _ 1
  have HC : Hid (Calls Try.prog 98 #[.pointer (some ⟨S.a, 0, none⟩), .int .i64 (lk t), .int .u64 (ix h + 1), .func (.func 113) #[] #[.pointer (some ⟨w.heap.size, 0, none⟩), .pointer (some ⟨w.heap.size + 1 + 1, 0, none⟩), .pointer (some ⟨w.heap.size + 1, 0, none⟩), .pointer (some ⟨w.heap.size + 1 + 1 + 1, 0, none⟩), .pointer (some ⟨w.heap.size + 1 + 1 + 1 + 1, 0, none⟩)]] (laW S hd hq fl fd cd w t h (.func (.func fa) #[] ca) (.func (.func ft) #[] ct)).drew fun e w4 => Hid (Makes S m k L w e w4) ∧ w4.cell? ⟨w.heap.size, 0, none⟩ = some (.pointer (some ⟨S.a, 0, none⟩)) ∧ w4.cell? ⟨w.heap.size, 2, none⟩ = some (.func (.func fl) #[] #[]) ∧ w4.cell? ⟨w.heap.size + 1, 0, none⟩ = some (.int .i64 t) ∧ ∃ v, e = .returned v) := (hc _ md).mono fun e w4 hmk => by
    have hg := hmk.from (Made.trans mm md)
    obtain ⟨v, rfl, m4, _⟩ := hmk
    have e4 := (Ext.of_made (S := S) (L := L) md).trans (Ext.of_made m4)
    exact ⟨hg, (hb.later e4).c0, (hb.later e4).c2, (h1.later e4).cell, v, rfl⟩
  have HLK := Lib.hid (hlk.calls t)
  have hen : ∀ (args : Array Value) (w : World), (callFunc fl args).run Try.prog w = .ok (.enter fl args) w := hlk.enters
  have hmf : ∀ (fn : Fn) (first cap : Array Value) (w : World), (Instr.makeFunc fn first cap).run Try.prog w = .ok (.func fn first cap) w := fun _ _ _ _ => rfl
  have c0 := hb.c0
  have c2 := hb.c2
  have c1 := h1.cell
  have hlo := ix_lo h
  have hw1 : IntKind.i64.wrap (ix h + 1) = ix h + 1 := by rw [IntKind.wrap_i64]; omega
  have hw2 : IntKind.u64.wrap (ix h + 1) = ix h + 1 := by rw [IntKind.wrap_u64]; omega
  clear hc mm hb h1 h2 h3 h4 md hlk hL hlo
  unfold bxv
  have HE : Hid (((((w.alloc (.cells (bxr S hd hq fl fd cd) 31)).alloc (.cells #[.int .i64 t] 3)).alloc (.cells #[.int .u64 h] 58)).alloc (.cells #[.func (.func fa) #[] ca] 39)).alloc (.cells #[.func (.func ft) #[] ct] 39) = laW S hd hq fl fd cd w t h (.func (.func fa) #[] ca) (.func (.func ft) #[] ct)) := rfl
  generalize laW S hd hq fl fd cd w t h (.func (.func fa) #[] ca) (.func (.func ft) #[] ct) = wb at *
  unfold bxr at *
  go_enter Try.func88, Try.ntmps88
  go_wp2_with fail
  rw [HE.out]
  generalize w.heap.size = g0 at *
  clear HE
  go_region_held3 (fun w1 => w1.cell? ⟨g0, 0, none⟩ = some (.pointer (some ⟨S.a, 0, none⟩)) ∧ w1.cell? ⟨g0, 2, none⟩ = some (.func (.func fl) #[] #[]) ∧ w1.cell? ⟨g0 + 1, 0, none⟩ = some (.int .i64 t)) (first | (refine ⟨?_, ?_, ?_⟩ <;> first | assumption | simpa using c0 | simpa using c2 | simpa using c1)) (first | (go_at_fn fl; refine (HLK.out _ ht0 ht1).mono ?_; rintro e w3 ⟨rfl, rfl⟩) | (go_at_call 98; refine HC.out.mono ?_; rintro e w4 ⟨HG4, e0, e2, e1, v, rfl⟩))
  all_goals
    go_wp2_with fail
    go_ret
    exact HG4.out
theorem Lay_c {m : Nat} {h : Int} {va vt : Value} {w : World} {L : Lay} (P : PutK S hd hq lk t kL kD kS kC kN kM fL fS fC T) (hlk : LinkOK fl lk) (hU : U64 h) (ht0 : 0 ≤ t) (ht1 : t ≤ 4294967295) (hL : ∀ k, Mut S L k → k < w.heap.size)
    (ha : Takes S m #[] (fun σ => some (kL, σ)) va w L) (ht : Takes S m #[] T vt w L) : Calls Try.prog 88 #[bxv S hd hq fl fd cd, .int .i64 t, .int .u64 h, .int .i64 (ix h), va, vt] w (Makes S (m + 1) (kS h) L w) := by
  obtain ⟨mm, hb, h1, h2, h3, h4⟩ := laW_boxes (S := S) (hd := hd) (hq := hq) (fl := fl) (fd := fd) (cd := cd) t h va vt hL
  have hlo := ix_lo h
  refine Lay_walk ha.func ht.func hlk hL ht0 ht1 fun w1 hm1 => ?_
  have e1 := Ext.of_made (S := S) (L := L) hm1
  have e2 := (Ext.of_made (S := S) (L := L) mm).trans e1
  exact Store_mk (S := S) (k := kS h) (i := lk t) (G := fun σ => some (kC h, σ)) (by omega) (fun k hk => Nat.lt_of_lt_of_le (hL k hk) (Made.trans mm hm1).size) (P.nS h) (P.sS h) (lay1_takes P hU (by unfold I64; omega) (ha.later e2) (ht.later e2) (hb.later e1) (h2.later e1) (h1.later e1) (h3.later e1) (h4.later e1))

set_option maxRecDepth 100000 in
set_option maxHeartbeats 1000000 in
theorem help2_takes {m : Nat} {i : Int} {va : Value} {w : World} {L : Lay} {bs ba bf : Nat} (P : PutK S hd hq lk t kL kD kS kC kN kM fL fS fC T) (hlk : LinkOK fl lk) (hi0 : 0 ≤ i) (hi1 : i ≤ 4294967295)
    (ha : Takes S m #[] (fun σ => some (kL, σ)) va w L) (hs : BB S w L bs hd hq fl fd cd) (h1 : Box S w L ba va) (h2 : Box S w L bf (.int .i64 i)) (ok : Bool) :
    Takes S m #[.bool ok] (fun σ => some (if ok then fL i else kL, σ)) (.func (.func 116) #[] #[.pointer (some ⟨ba, 0, none⟩), .pointer (some ⟨bs, 0, none⟩), .pointer (some ⟨bf, 0, none⟩)]) w L := by
  refine ⟨_, _, rfl, enters_of Try.func116 (by kernel_rfl) rfl, fun q w' L' σ rs y hx hv hy => ?_⟩
  obtain ⟨d0, d1, d2, d3, d4, d5, d6⟩ := (hs.later hx).cells
  have c1 := (h1.later hx).cell
  have c2 := (h2.later hx).cell
  obtain ⟨fa, ca, rfl, hfa, hc⟩ := ha
  cases ok with
  | true =>
    obtain rfl : (fL i, σ) = y := by simpa using hy
    have HC : Hid (Calls Try.prog 117 #[.agg #[.pointer (some ⟨S.a, 0, none⟩), .int .i64 hq, .func (.func fl) #[] #[]], .int .i64 i, .func (.func fa) #[] ca] w' (Gives S m q (fL i, σ) rs L' w')) := (Push_c (P.free i) hlk hi0 hi1 m (.func (.func fa) #[] ca) w' L' q σ rs hv ⟨fa, ca, rfl, hfa, fun n w2 L2 σ rs y hx2 => hc n w2 L2 σ rs y (hx.trans hx2)⟩).mono fun e w2 hm => hm.gives' (Made.refl _) hv
    clear hc hs h1 h2 hx hv hy P hlk
    go_enter Try.func116, Try.ntmps116
    go_wp2_with fail
    refine HC.out.mono ?_
    rintro e w2 hg
    obtain ⟨v, rfl⟩ := hg.ret
    have HF := Lib.hid hg
    clear hg HC
    go_wp2_with fail
    go_ret
    exact HF.out
  | false =>
    have hen : ∀ (args : Array Value) (w : World), (callFunc fa args).run Try.prog w = .ok (.enter fa args) w := hfa
    have HC : Hid (Calls Try.prog fa ca w' (Gives S m q y rs L' w')) := by have h := hc q w' L' σ rs y hx hv (by simpa using hy); rw [Array.empty_append] at h; exact h
    clear hc hs h1 h2 hx hv hy P hlk
    go_enter Try.func116, Try.ntmps116
    go_wp2_with fail
    refine HC.out.mono ?_
    rintro e w2 hg
    obtain ⟨v, rfl⟩ := hg.ret
    have HF := Lib.hid hg
    clear hg HC
    go_wp2_with fail
    go_ret
    exact HF.out
set_option maxRecDepth 100000 in
set_option maxHeartbeats 1000000 in
theorem help1_takes {m : Nat} {h x : Int} {va : Value} {w : World} {L : Lay} {bs br ba bf : Nat} (P : PutK S hd hq lk t kL kD kS kC kN kM fL fS fC T) (hlk : LinkOK fl lk) (hU : U64 h) (hi0 : 0 ≤ ix h)
    (ha : Takes S m #[] (fun σ => some (kL, σ)) va w L) (hs : BB S w L bs hd hq fl fd cd) (hr : Box S w L br (.int .u64 h)) (h1 : Box S w L ba va) (h2 : Box S w L bf (.int .i64 (ix h))) :
    Takes S m #[.int .u64 x] (fun σ => some (kM h x, σ)) (.func (.func 115) #[] #[.pointer (some ⟨bs, 0, none⟩), .pointer (some ⟨br, 0, none⟩), .pointer (some ⟨ba, 0, none⟩), .pointer (some ⟨bf, 0, none⟩)]) w L := by
  refine ⟨_, _, rfl, enters_of Try.func115 (by kernel_rfl) rfl, fun q w' L' σ rs y hx hv hy => ?_⟩
  obtain rfl : (kM h x, σ) = y := by simpa using hy
  obtain ⟨d0, d1, d2, d3, d4, d5, d6⟩ := (hs.later hx).cells
  have cr := (hr.later hx).cell
  have hlo := ix_lo h
  have HC : Hid (Calls Try.prog 81 #[bxv S hd hq fl fd cd, .int .u64 h, .int .i64 (nx x), .func (.func 116) #[] #[.pointer (some ⟨ba, 0, none⟩), .pointer (some ⟨bs, 0, none⟩), .pointer (some ⟨bf, 0, none⟩)]] w' (Gives S m q (kM h x, σ) rs L' w')) := by
    refine (turn_walk (S := S) (m := m + 1) (k := kM h x) (L := L') hU (nx_i64 x) fun w1 hm1 => ?_).mono fun e w2 hm => hm.gives (Made.refl _) hv
    have e1 := hx.trans (Ext.of_made (S := S) (L := L') hm1)
    exact Cas_mk (S := S) (k := kM h x) (G := fun ok σ => some (if ok then fL (ix h) else kL, σ)) (turnTo_wide h (nx x)) (fun k hk => (hv.later hm1).mut_lt hk) (P.nM h x) (P.sM h x) (fun ok => help2_takes P hlk hi0 (by omega) (ha.later e1) (hs.later e1) (h1.later e1) (h2.later e1) ok)
  have hmf : ∀ (fn : Fn) (first cap : Array Value) (w : World), (Instr.makeFunc fn first cap).run Try.prog w = .ok (.func fn first cap) w := fun _ _ _ _ => rfl
  have HNX : Hid (wrap64 (wrap64 x - 1) = nx x) := Lib.hid (by unfold nx; simp only [wrap64, IntKind.wrap_i64])
  clear ha hs hr h1 h2 hx hv hy P hU hlk hlo hi0
  unfold bxv at HC
  unfold bxr at HC
  go_enter Try.func115, Try.ntmps115
  go_wp2_with fail
  rw [HNX.out]
  refine HC.out.mono ?_
  rintro e w2 hg
  obtain ⟨v, rfl⟩ := hg.ret
  have HF := Lib.hid hg
  clear hg HC
  go_wp2_with fail
  go_ret
  exact HF.out
/-- Where help goes on. -/
def heW (S : Sys) (hd hq : Int) (fl fd : FuncId) (cd : Array Value) (w : World) (h i : Int) (va : Value) : World := (((w.alloc (.cells (bxr S hd hq fl fd cd) 31)).alloc (.cells #[.int .u64 h] 58)).alloc (.cells #[.int .i64 i] 3)).alloc (.cells #[va] 39)
theorem heW_boxes {w : World} {L : Lay} (h i : Int) (va : Value) (hL : ∀ k, Mut S L k → k < w.heap.size) : Made w (heW S hd hq fl fd cd w h i va) ∧ BB S (heW S hd hq fl fd cd w h i va) L w.heap.size hd hq fl fd cd ∧ Box S (heW S hd hq fl fd cd w h i va) L (w.heap.size + 1) (.int .u64 h) ∧ Box S (heW S hd hq fl fd cd w h i va) L (w.heap.size + 1 + 1) (.int .i64 i) ∧ Box S (heW S hd hq fl fd cd w h i va) L (w.heap.size + 1 + 1 + 1) va := by
  obtain ⟨z0, b0, m0, e0⟩ := BB.step (hd := hd) (hq := hq) (fl := fl) (fd := fd) (cd := cd) hL
  obtain ⟨z1, b1, m1, e1⟩ := Box.step (v := .int .u64 h) (ty := 58) z0
  obtain ⟨z2, b2, m2, e2⟩ := Box.step (v := .int .i64 i) (ty := 3) z1
  obtain ⟨z3, b3, m3, e3⟩ := Box.step (v := va) (ty := 39) z2
  simp only [World.size_alloc] at b1 b2 b3
  exact ⟨Made.trans m0 (Made.trans m1 (Made.trans m2 m3)), ((b0.later e1).later e2).later e3, (b1.later e2).later e3, b2.later e3, b3⟩
set_option maxRecDepth 100000 in
set_option maxHeartbeats 1000000 in
theorem Help_walk {m : Nat} {k : S.K} {h i : Int} {va : Value} {w : World} {L : Lay} (hsa : ∃ f cap, va = .func (.func f) #[] cap) (hlk : LinkOK fl lk) (hL : ∀ k, Mut S L k → k < w.heap.size) (hi0 : 0 ≤ i) (hi1 : i ≤ 4294967295)
    (hc : ∀ w1, Made (heW S hd hq fl fd cd w h i va) w1 → Calls Try.prog 42 #[.pointer (some ⟨S.a, 0, none⟩), .int .i64 (lk i), .func (.func 115) #[] #[.pointer (some ⟨w.heap.size, 0, none⟩), .pointer (some ⟨w.heap.size + 1, 0, none⟩), .pointer (some ⟨w.heap.size + 1 + 1 + 1, 0, none⟩), .pointer (some ⟨w.heap.size + 1 + 1, 0, none⟩)]] w1 (Makes S m k L w1)) :
    Calls Try.prog 90 #[bxv S hd hq fl fd cd, .int .u64 h, .int .i64 i, va] w (Makes S m k L w) := by
  obtain ⟨fa, ca, rfl⟩ := hsa
  obtain ⟨mm, hb, h1, h2, h3⟩ := heW_boxes (S := S) (hd := hd) (hq := hq) (fl := fl) (fd := fd) (cd := cd) h i (.func (.func fa) #[] ca) hL
  have md : Made (heW S hd hq fl fd cd w h i (.func (.func fa) #[] ca)) (heW S hd hq fl fd cd w h i (.func (.func fa) #[] ca)).drew := Made.drewN _ 1
  have HC : Hid (Calls Try.prog 42 #[.pointer (some ⟨S.a, 0, none⟩), .int .i64 (lk i), .func (.func 115) #[] #[.pointer (some ⟨w.heap.size, 0, none⟩), .pointer (some ⟨w.heap.size + 1, 0, none⟩), .pointer (some ⟨w.heap.size + 1 + 1 + 1, 0, none⟩), .pointer (some ⟨w.heap.size + 1 + 1, 0, none⟩)]] (heW S hd hq fl fd cd w h i (.func (.func fa) #[] ca)).drew fun e w4 => Hid (Makes S m k L w e w4) ∧ w4.cell? ⟨w.heap.size, 0, none⟩ = some (.pointer (some ⟨S.a, 0, none⟩)) ∧ w4.cell? ⟨w.heap.size, 2, none⟩ = some (.func (.func fl) #[] #[]) ∧ w4.cell? ⟨w.heap.size + 1 + 1, 0, none⟩ = some (.int .i64 i) ∧ ∃ v, e = .returned v) := (hc _ md).mono fun e w4 hmk => by
    have hg := hmk.from (Made.trans mm md)
    obtain ⟨v, rfl, m4, _⟩ := hmk
    have e4 := (Ext.of_made (S := S) (L := L) md).trans (Ext.of_made m4)
    exact ⟨hg, (hb.later e4).c0, (hb.later e4).c2, (h2.later e4).cell, v, rfl⟩
  have HLK := Lib.hid (hlk.calls i)
  have hen : ∀ (args : Array Value) (w : World), (callFunc fl args).run Try.prog w = .ok (.enter fl args) w := hlk.enters
  have hmf : ∀ (fn : Fn) (first cap : Array Value) (w : World), (Instr.makeFunc fn first cap).run Try.prog w = .ok (.func fn first cap) w := fun _ _ _ _ => rfl
  have c0 := hb.c0
  have c2 := hb.c2
  have c1 := h2.cell
  clear hc mm hb h1 h2 h3 md hlk hL
  unfold bxv
  have HE : Hid ((((w.alloc (.cells (bxr S hd hq fl fd cd) 31)).alloc (.cells #[.int .u64 h] 58)).alloc (.cells #[.int .i64 i] 3)).alloc (.cells #[.func (.func fa) #[] ca] 39) = heW S hd hq fl fd cd w h i (.func (.func fa) #[] ca)) := rfl
  generalize heW S hd hq fl fd cd w h i (.func (.func fa) #[] ca) = wb at *
  unfold bxr at *
  go_enter Try.func90, Try.ntmps90
  go_wp2_with fail
  rw [HE.out]
  generalize w.heap.size = g0 at *
  clear HE
  go_region_held3 (fun w1 => w1.cell? ⟨g0, 0, none⟩ = some (.pointer (some ⟨S.a, 0, none⟩)) ∧ w1.cell? ⟨g0, 2, none⟩ = some (.func (.func fl) #[] #[]) ∧ w1.cell? ⟨g0 + 1 + 1, 0, none⟩ = some (.int .i64 i)) (first | (refine ⟨?_, ?_, ?_⟩ <;> first | assumption | simpa using c0 | simpa using c2 | simpa using c1)) (first | (go_at_fn fl; refine (HLK.out _ hi0 hi1).mono ?_; rintro e w3 ⟨rfl, rfl⟩) | (go_at_call 42; refine HC.out.mono ?_; rintro e w4 ⟨HG4, e0, e2, e1, v, rfl⟩))
  all_goals
    go_wp2_with fail
    go_ret
    exact HG4.out
theorem Help_c {m : Nat} {h : Int} {va : Value} {w : World} {L : Lay} (P : PutK S hd hq lk t kL kD kS kC kN kM fL fS fC T) (hlk : LinkOK fl lk) (hU : U64 h) (hi0 : 0 ≤ ix h) (hL : ∀ k, Mut S L k → k < w.heap.size)
    (ha : Takes S m #[] (fun σ => some (kL, σ)) va w L) : Calls Try.prog 90 #[bxv S hd hq fl fd cd, .int .u64 h, .int .i64 (ix h), va] w (Makes S (m + 1) (kN h) L w) := by
  obtain ⟨mm, hb, h1, h2, h3⟩ := heW_boxes (S := S) (hd := hd) (hq := hq) (fl := fl) (fd := fd) (cd := cd) h (ix h) va hL
  have hlo := ix_lo h
  refine Help_walk ha.func hlk hL hi0 (by omega) fun w1 hm1 => ?_
  have e1 := Ext.of_made (S := S) (L := L) hm1
  have e2 := (Ext.of_made (S := S) (L := L) mm).trans e1
  exact Load_mk (S := S) (k := kN h) (i := lk (ix h)) (G := fun x σ => some (kM h x, σ)) (fun k hk => Nat.lt_of_lt_of_le (hL k hk) (Made.trans mm hm1).size) (P.nN h) (P.sN h) (fun x _ _ => help1_takes P hlk hU hi0 (ha.later e2) (hb.later e1) (h1.later e1) (h3.later e1) (h2.later e1))
end Go.Proofs.Ytndpkonihcebeaa.Kod
