/- Package inbox, walked: Put (over whatever system). -/
import Derived.Test.YtndpkonihcebeaaBoxC
namespace Go.Proofs.Ytndpkonihcebeaa.Kod
open Go.RowKit Go.Proofs.Ytndpkonihcebeaa Go.Proofs.Ytndpkonihcebeaa.Cell Go.Proofs.Ytndpkonihcebeaa.Wd
set_option linter.unusedVariables false
set_option linter.unusedSimpArgs false
variable {S : Sys} {hd hq : Int} {fl fd : FuncId} {cd : Array Value} {lk : Int → Int}
variable {t : Int} {kL : S.K} {kD kS kC kN : Int → S.K} {kM : Int → Int → S.K} {fL : Int → S.K} {fS fC : Int → Int → S.K} {T : St S.R → Option (S.K × St S.R)}

/-- Whether a ticket is dead: what is asked. -/
def DeadOK (S : Sys) (fd : FuncId) (cd : Array Value) (kD : Int → S.K) (F : Int → Bool → S.K) (w : World) (L : Lay) : Prop :=
  Enters Try.prog fd ∧ ∀ m h w' L' n σ rs vt, Ext S w L w' L' → Inv S n σ rs L' w' → U64 h → 0 ≤ ix h → (∀ d, Takes S m #[.bool d] (fun σ => some (F h d, σ)) vt w' L') → Calls Try.prog fd (#[.int .i64 (ix h), vt] ++ cd) w' (Makes S m (kD h) L' w')
theorem DeadOK.later {F : Int → Bool → S.K} {w w' : World} {L L' : Lay} (h : DeadOK S fd cd kD F w L) (e : Ext S w L w' L') : DeadOK S fd cd kD F w' L' :=
  ⟨h.1, fun m i w2 L2 n σ rs vt hx => h.2 m i w2 L2 n σ rs vt (e.trans hx)⟩
set_option maxRecDepth 100000 in
set_option maxHeartbeats 1000000 in
theorem put3_takes {m : Nat} {h : Int} {va vt : Value} {w : World} {L : Lay} {bs bi br bf ba bt : Nat} (P : PutK S hd hq lk t kL kD kS kC kN kM fL fS fC T) (hlk : LinkOK fl lk) (hU : U64 h) (hi0 : 0 ≤ ix h) (ht0 : 0 ≤ t) (ht1 : t ≤ 4294967295)
    (ha : Takes S m #[] (fun σ => some (kL, σ)) va w L) (ht : Takes S m #[] T vt w L) (hs : BB S w L bs hd hq fl fd cd) (hi : Box S w L bi (.int .i64 t)) (hr : Box S w L br (.int .u64 h)) (hf : Box S w L bf (.int .i64 (ix h))) (h1 : Box S w L ba va) (h2 : Box S w L bt vt) (d : Bool) :
    Takes S m #[.bool d] (fun σ => some (if d then kN h else kS h, σ)) (.func (.func 89) #[] #[.pointer (some ⟨bs, 0, none⟩), .pointer (some ⟨bi, 0, none⟩), .pointer (some ⟨br, 0, none⟩), .pointer (some ⟨bf, 0, none⟩), .pointer (some ⟨ba, 0, none⟩), .pointer (some ⟨bt, 0, none⟩)]) w L := by
  refine ⟨_, _, rfl, enters_of Try.func89 (by kernel_rfl) rfl, fun q w' L' σ rs y hx hv hy => ?_⟩
  obtain ⟨d0, d1, d2, d3, d4, d5, d6⟩ := (hs.later hx).cells
  have ci := (hi.later hx).cell
  have cr := (hr.later hx).cell
  have cf := (hf.later hx).cell
  have c1 := (h1.later hx).cell
  have c2 := (h2.later hx).cell
  cases d with
  | true =>
    obtain rfl : (kN h, σ) = y := by simpa using hy
    have HC : Hid (Calls Try.prog 90 #[bxv S hd hq fl fd cd, .int .u64 h, .int .i64 (ix h), va] w' (Gives S m q (kN h, σ) rs L' w')) := (Help_c P hlk hU hi0 (fun k hk => hv.mut_lt hk) (ha.later hx)).mono fun e w2 hm => hm.gives (Made.refl _) hv
    clear ha ht hs hi hr hf h1 h2 hx hv hy P hlk hU hi0 ht0 ht1
    unfold bxv at HC
    unfold bxr at HC
    go_enter Try.func89, Try.ntmps89
    go_wp2_with fail
    refine HC.out.mono ?_
    rintro e w2 hg
    obtain ⟨v, rfl⟩ := hg.ret
    have HF := Lib.hid hg
    clear hg HC
    go_wp2_with fail
    go_ret
    exact HF.out
  | false =>
    obtain rfl : (kS h, σ) = y := by simpa using hy
    have HC : Hid (Calls Try.prog 88 #[bxv S hd hq fl fd cd, .int .i64 t, .int .u64 h, .int .i64 (ix h), va, vt] w' (Gives S m q (kS h, σ) rs L' w')) := (Lay_c P hlk hU ht0 ht1 (fun k hk => hv.mut_lt hk) (ha.later hx) (ht.later hx)).mono fun e w2 hm => hm.gives (Made.refl _) hv
    clear ha ht hs hi hr hf h1 h2 hx hv hy P hlk hU hi0 ht0 ht1
    unfold bxv at HC
    unfold bxr at HC
    go_enter Try.func89, Try.ntmps89
    go_wp2_with fail
    refine HC.out.mono ?_
    rintro e w2 hg
    obtain ⟨v, rfl⟩ := hg.ret
    have HF := Lib.hid hg
    clear hg HC
    go_wp2_with fail
    go_ret
    exact HF.out
set_option maxRecDepth 100000 in
set_option maxHeartbeats 1000000 in
theorem put2_takes {m : Nat} {h : Int} {va vt : Value} {w : World} {L : Lay} {bs bi ba bt : Nat} (P : PutK S hd hq lk t kL kD kS kC kN kM fL fS fC T) (hlk : LinkOK fl lk) (hU : U64 h) (ht0 : 0 ≤ t) (ht1 : t ≤ 4294967295)
    (hde : DeadOK S fd cd kD (fun h d => if d then kN h else kS h) w L) (ha : Takes S m #[] (fun σ => some (kL, σ)) va w L) (ht : Takes S m #[] T vt w L) (hs : BB S w L bs hd hq fl fd cd) (hi : Box S w L bi (.int .i64 t)) (h1 : Box S w L ba va) (h2 : Box S w L bt vt) :
    Takes S m #[.int .u64 h, .int .i64 (ix h)] (fun σ => some (if ix h < 0 then kS h else kD h, σ)) (.func (.func 87) #[] #[.pointer (some ⟨bs, 0, none⟩), .pointer (some ⟨bi, 0, none⟩), .pointer (some ⟨ba, 0, none⟩), .pointer (some ⟨bt, 0, none⟩)]) w L := by
  refine ⟨_, _, rfl, enters_of Try.func87 (by kernel_rfl) rfl, fun q w' L' σ rs y hx hv hy => ?_⟩
  obtain ⟨z0, b0, m0, e0⟩ := Box.step (S := S) (L := L') (v := .int .u64 h) (ty := 58) (fun k hk => hv.mut_lt hk)
  obtain ⟨z1, b1, m1, e1⟩ := Box.step (v := .int .i64 (ix h)) (ty := 3) z0
  simp only [World.size_alloc] at b1
  have mm := Made.trans m0 m1
  have ee := e0.trans e1
  have hxx := hx.trans ee
  obtain ⟨d0, d1, d2, d3, d4, d5, d6⟩ := (hs.later hxx).cells
  have ci := (hi.later hxx).cell
  have c1 := (h1.later hxx).cell
  have c2 := (h2.later hxx).cell
  have cr := (b0.later e1).cell
  have cf := b1.cell
  have hv2 := hv.later mm
  have hlo := ix_lo h
  by_cases hneg : ix h < 0
  · obtain rfl : (kS h, σ) = y := by simpa [hneg] using hy
    have HC : Hid (Calls Try.prog 88 #[bxv S hd hq fl fd cd, .int .i64 t, .int .u64 h, .int .i64 (ix h), va, vt] ((w'.alloc (.cells #[.int .u64 h] 58)).alloc (.cells #[.int .i64 (ix h)] 3)) (Gives S m q (kS h, σ) rs L' w')) := (Lay_c P hlk hU ht0 ht1 (fun k hk => hv2.mut_lt hk) (ha.later hxx) (ht.later hxx)).mono fun e w2 hm => hm.gives mm hv
    clear ha ht hs hi h1 h2 hx hv hy P hlk hU ht0 ht1 hde z0 z1 b0 b1 m0 m1 e0 e1 mm ee hxx hv2
    unfold bxv at HC
    unfold bxr at HC
    go_enter Try.func87, Try.ntmps87
    go_wp2_with fail
    refine HC.out.mono ?_
    rintro e w2 hg
    obtain ⟨v, rfl⟩ := hg.ret
    have HF := Lib.hid hg
    clear hg HC
    go_wp2_with fail
    go_ret
    exact HF.out
  · obtain rfl : (kD h, σ) = y := by simpa [hneg] using hy
    have hge : ¬ ix h < 0 := hneg
    have HC : Hid (Calls Try.prog fd (#[.int .i64 (ix h), .func (.func 89) #[] #[.pointer (some ⟨bs, 0, none⟩), .pointer (some ⟨bi, 0, none⟩), .pointer (some ⟨w'.heap.size, 0, none⟩), .pointer (some ⟨w'.heap.size + 1, 0, none⟩), .pointer (some ⟨ba, 0, none⟩), .pointer (some ⟨bt, 0, none⟩)]] ++ cd) ((w'.alloc (.cells #[.int .u64 h] 58)).alloc (.cells #[.int .i64 (ix h)] 3)) (Gives S m q (kD h, σ) rs L' w')) :=
      (hde.2 m h _ L' q σ rs _ hxx hv2 hU (by omega) (fun d => put3_takes P hlk hU (by omega) ht0 ht1 (ha.later hxx) (ht.later hxx) (hs.later hxx) (hi.later hxx) (b0.later e1) b1 (h1.later hxx) (h2.later hxx) d)).mono fun e w2 hm => hm.gives' mm hv
    have hen : ∀ (args : Array Value) (w : World), (callFunc fd args).run Try.prog w = .ok (.enter fd args) w := hde.1
    have hmf : ∀ (fn : Fn) (first cap : Array Value) (w : World), (Instr.makeFunc fn first cap).run Try.prog w = .ok (.func fn first cap) w := fun _ _ _ _ => rfl
    clear ha ht hs hi h1 h2 hx hv hy P hlk hU ht0 ht1 hde z0 z1 b0 b1 m0 m1 e0 e1 mm ee hxx hv2 hneg hlo
    go_enter Try.func87, Try.ntmps87
    go_wp2_with fail
    refine HC.out.mono ?_
    rintro e w2 hg
    obtain ⟨v, rfl⟩ := hg.ret
    have HF := Lib.hid hg
    clear hg HC
    go_wp2_with fail
    go_ret
    exact HF.out
set_option maxRecDepth 100000 in
set_option maxHeartbeats 1000000 in
theorem again_takes {m : Nat} {vt : Value} {w : World} {L : Lay} {bs bi bt : Nat}
    (hput : ∀ w' L' n (σ : St S.R) rs, Ext S w L w' L' → Inv S n σ rs L' w' → Calls Try.prog 50 #[bxv S hd hq fl fd cd, .int .i64 t, vt] w' (Makes S m kL L' w'))
    (hs : BB S w L bs hd hq fl fd cd) (hi : Box S w L bi (.int .i64 t)) (h2 : Box S w L bt vt) :
    Takes S m #[] (fun σ => some (kL, σ)) (.func (.func 86) #[] #[.pointer (some ⟨bs, 0, none⟩), .pointer (some ⟨bi, 0, none⟩), .pointer (some ⟨bt, 0, none⟩)]) w L := by
  refine ⟨_, _, rfl, enters_of Try.func86 (by kernel_rfl) rfl, fun q w' L' σ rs y hx hv hy => ?_⟩
  obtain rfl : (kL, σ) = y := by simpa using hy
  obtain ⟨d0, d1, d2, d3, d4, d5, d6⟩ := (hs.later hx).cells
  have ci := (hi.later hx).cell
  have c2 := (h2.later hx).cell
  have HC : Hid (Calls Try.prog 50 #[bxv S hd hq fl fd cd, .int .i64 t, vt] w' (Gives S m q (kL, σ) rs L' w')) := (hput w' L' q σ rs hx hv).mono fun e w2 hm => hm.gives' (Made.refl _) hv
  clear hput hs hi h2 hx hv hy
  rw [Array.empty_append]
  unfold bxv at HC
  unfold bxr at HC
  go_enter Try.func86, Try.ntmps86
  go_wp2_with fail
  refine HC.out.mono ?_
  rintro e w2 hg
  obtain ⟨v, rfl⟩ := hg.ret
  have HF := Lib.hid hg
  clear hg HC
  go_wp2_with fail
  go_ret
  exact HF.out
/-- Where Put goes on. -/
def puW (S : Sys) (hd hq : Int) (fl fd : FuncId) (cd : Array Value) (w : World) (t : Int) (vt : Value) : World := (((w.alloc (.cells (bxr S hd hq fl fd cd) 31)).alloc (.cells #[.int .i64 t] 3)).alloc (.cells #[vt] 39)).alloc (.cells #[.func (.func 86) #[] #[.pointer (some ⟨w.heap.size, 0, none⟩), .pointer (some ⟨w.heap.size + 1, 0, none⟩), .pointer (some ⟨w.heap.size + 1 + 1, 0, none⟩)]] 39)
theorem puW_boxes {w : World} {L : Lay} (t : Int) (vt : Value) (hL : ∀ k, Mut S L k → k < w.heap.size) : Made w (puW S hd hq fl fd cd w t vt) ∧ BB S (puW S hd hq fl fd cd w t vt) L w.heap.size hd hq fl fd cd ∧ Box S (puW S hd hq fl fd cd w t vt) L (w.heap.size + 1) (.int .i64 t) ∧ Box S (puW S hd hq fl fd cd w t vt) L (w.heap.size + 1 + 1) vt ∧ Box S (puW S hd hq fl fd cd w t vt) L (w.heap.size + 1 + 1 + 1) (.func (.func 86) #[] #[.pointer (some ⟨w.heap.size, 0, none⟩), .pointer (some ⟨w.heap.size + 1, 0, none⟩), .pointer (some ⟨w.heap.size + 1 + 1, 0, none⟩)]) := by
  obtain ⟨z0, b0, m0, e0⟩ := BB.step (hd := hd) (hq := hq) (fl := fl) (fd := fd) (cd := cd) hL
  obtain ⟨z1, b1, m1, e1⟩ := Box.step (v := .int .i64 t) (ty := 3) z0
  obtain ⟨z2, b2, m2, e2⟩ := Box.step (v := vt) (ty := 39) z1
  obtain ⟨z3, b3, m3, e3⟩ := Box.step (v := .func (.func 86) #[] #[.pointer (some ⟨w.heap.size, 0, none⟩), .pointer (some ⟨w.heap.size + 1, 0, none⟩), .pointer (some ⟨w.heap.size + 1 + 1, 0, none⟩)]) (ty := 39) z2
  simp only [World.size_alloc] at b1 b2 b3
  exact ⟨Made.trans m0 (Made.trans m1 (Made.trans m2 m3)), ((b0.later e1).later e2).later e3, (b1.later e2).later e3, b2.later e3, b3⟩
set_option maxRecDepth 100000 in
set_option maxHeartbeats 1000000 in
theorem Put_walk {m : Nat} {k : S.K} {w : World} {L : Lay} {f : FuncId} {cap : Array Value} (h : Calls Try.prog 79 #[bxv S hd hq fl fd cd, .func (.func 87) #[] #[.pointer (some ⟨w.heap.size, 0, none⟩), .pointer (some ⟨w.heap.size + 1, 0, none⟩), .pointer (some ⟨w.heap.size + 1 + 1 + 1, 0, none⟩), .pointer (some ⟨w.heap.size + 1 + 1, 0, none⟩)]] (puW S hd hq fl fd cd w t (.func (.func f) #[] cap)) (Makes S m k L w)) :
    Calls Try.prog 50 #[bxv S hd hq fl fd cd, .int .i64 t, .func (.func f) #[] cap] w (Makes S m k L w) := by
  have HC := Lib.hid h
  have hmf : ∀ (fn : Fn) (first cap : Array Value) (w : World), (Instr.makeFunc fn first cap).run Try.prog w = .ok (.func fn first cap) w := fun _ _ _ _ => rfl
  clear h
  unfold puW bxv at *
  unfold bxr at *
  go_enter Try.func50, Try.ntmps50
  go_wp2_with fail
  refine HC.out.mono ?_
  rintro e w2 hg
  obtain ⟨v, rfl⟩ := hg.ret
  have HF := Lib.hid hg
  clear hg HC
  go_wp2_with fail
  go_ret
  exact HF.out
theorem Put_c (P : PutK S hd hq lk t kL kD kS kC kN kM fL fS fC T) (hlk : LinkOK fl lk) (ht0 : 0 ≤ t) (ht1 : t ≤ 4294967295) : ∀ (m : Nat) (vt : Value) (w : World) (L : Lay) (n : Nat) (σ : St S.R) (rs : List Value), Inv S n σ rs L w →
    DeadOK S fd cd kD (fun h d => if d then kN h else kS h) w L → Takes S m #[] T vt w L → Calls Try.prog 50 #[bxv S hd hq fl fd cd, .int .i64 t, vt] w (Makes S m kL L w) := by
  intro m
  induction m with
  | zero =>
    intro vt w L n σ rs hi hde ht
    obtain ⟨f, cap, rfl⟩ := ht.func
    obtain ⟨mm, hb, h1, h2, h3⟩ := puW_boxes (S := S) (hd := hd) (hq := hq) (fl := fl) (fd := fd) (cd := cd) t (.func (.func f) #[] cap) (fun k hk => hi.mut_lt hk)
    exact Put_walk ((head_shape P.nL).mono fun e w2 hm => hm.from mm)
  | succ m ih =>
    intro vt w L n σ rs hi hde ht
    obtain ⟨f, cap, rfl⟩ := ht.func
    obtain ⟨mm, hb, h1, h2, h3⟩ := puW_boxes (S := S) (hd := hd) (hq := hq) (fl := fl) (fd := fd) (cd := cd) t (.func (.func f) #[] cap) (fun k hk => hi.mut_lt hk)
    have e1 := Ext.of_made (S := S) (L := L) mm
    refine Put_walk ((head_mk (S := S) (k := kL) (G := fun h σ => some (if ix h < 0 then kS h else kD h, σ)) (fun k hk => (hi.later mm).mut_lt hk) P.nL P.sL (fun h hU => ?_)).mono fun e w2 hm => hm.from mm)
    exact put2_takes P hlk hU ht0 ht1 (hde.later e1) (again_takes (fun w2 L2 n σ rs hx2 hi2 => ih _ w2 L2 n σ rs hi2 (hde.later (e1.trans hx2)) (ht.lower.later (e1.trans hx2))) hb h1 h2) (ht.lower.later e1) hb h1 h3 h2
end Go.Proofs.Ytndpkonihcebeaa.Kod
