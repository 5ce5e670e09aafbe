/- Package inbox, walked: Each (over whatever system). -/
import Derived.Test.YtndpkonihcebeaaBoxA
namespace Go.Proofs.Ytndpkonihcebeaa.Kod
open Go.RowKit Go.Proofs.Ytndpkonihcebeaa Go.Proofs.Ytndpkonihcebeaa.Cell Go.Proofs.Ytndpkonihcebeaa.Wd
set_option linter.unusedVariables false
set_option linter.unusedSimpArgs false
variable {S : Sys} {hd hq : Int} {fl fd : FuncId} {cd : Array Value} {lk : Int → Int}

theorem Makes.lower {m : Nat} {k : S.K} {L : Lay} {w w2 : World} {e : Ending} (h : Makes S (m + 1) k L w e w2) : Makes S m k L w e w2 := by
  obtain ⟨v, e1, m2, r2⟩ := h
  exact ⟨v, e1, m2, r2.lower⟩
/-- Tickets, from one on. -/
def eachTo (kE : Int → S.K) (T : St S.R → Option (S.K × St S.R)) (f : Int) (σ : St S.R) : Option (S.K × St S.R) := if f < 0 then T σ else if f < 4294967295 then some (kE f, σ) else none
/-- What Each does, step by step. -/
structure EachK (S : Sys) (lk : Int → Int) (kE : Int → S.K) (D : Int → Int → St S.R → Option (S.K × St S.R)) : Prop where
  nE : ∀ f, S.nil (kE f) = false
  sE : ∀ f σ, S.next (kE f) σ = D f (σ.ld (lk f)).1 (σ.ld (lk f)).2
/-- What is done with a ticket. -/
def DoOK (S : Sys) (kE : Int → S.K) (D : Int → Int → St S.R → Option (S.K × St S.R)) (T : St S.R → Option (S.K × St S.R)) (v : Value) (w : World) (L : Lay) : Prop :=
  ∃ f cap, v = .func (.func f) #[] cap ∧ Enters Try.prog f ∧ ∀ m q w' L' σ rs y i x vt, Ext S w L w' L' → Inv S q σ rs L' w' → U64 x → 0 ≤ i → i < 4294967295 → Takes S m #[] (eachTo kE T (nx x)) vt w' L' → D i x σ = some y → Calls Try.prog f (#[.int .i64 i, vt] ++ cap) w' (Gives S m q y rs L' w')
variable {kE : Int → S.K} {D : Int → Int → St S.R → Option (S.K × St S.R)} {T : St S.R → Option (S.K × St S.R)}
theorem DoOK.later {v : Value} {w w' : World} {L L' : Lay} (h : DoOK S kE D T v w L) (e : Ext S w L w' L') : DoOK S kE D T v w' L' := by
  obtain ⟨f, cap, rfl, hf, hc⟩ := h
  exact ⟨f, cap, rfl, hf, fun m q w2 L2 σ rs y i x vt hx => hc m q w2 L2 σ rs y i x vt (e.trans hx)⟩
theorem DoOK.func {v : Value} {w : World} {L : Lay} (h : DoOK S kE D T v w L) : ∃ f cap, v = .func (.func f) #[] cap := by
  obtain ⟨f, cap, h, _⟩ := h
  exact ⟨f, cap, h⟩
set_option maxRecDepth 100000 in
set_option maxHeartbeats 1000000 in
theorem each2_takes {m : Nat} {x : Int} {vd vt : Value} {w : World} {L : Lay} {bs bn bd bt : Nat}
    (hea : ∀ f w' L' n (σ : St S.R) rs y, Ext S w L w' L' → Inv S n σ rs L' w' → I64 f → eachTo kE T f σ = some y → Calls Try.prog 46 #[bxv S hd hq fl fd cd, .int .i64 f, vd, vt] w' (Gives S m n y rs L' w'))
    (hs : BB S w L bs hd hq fl fd cd) (h1 : Box S w L bn (.int .u64 x)) (h2 : Box S w L bd vd) (h3 : Box S w L bt vt) :
    Takes S m #[] (eachTo kE T (nx x)) (.func (.func 84) #[] #[.pointer (some ⟨bs, 0, none⟩), .pointer (some ⟨bn, 0, none⟩), .pointer (some ⟨bd, 0, none⟩), .pointer (some ⟨bt, 0, none⟩)]) w L := by
  refine ⟨_, _, rfl, enters_of Try.func84 (by kernel_rfl) rfl, fun q w' L' σ rs y hx hv hy => ?_⟩
  obtain ⟨d0, d1, d2, d3, d4, d5, d6⟩ := (hs.later hx).cells
  have c1 := (h1.later hx).cell
  have c2 := (h2.later hx).cell
  have c3 := (h3.later hx).cell
  have HC := Lib.hid (hea (nx x) w' L' q σ rs y hx hv (nx_i64 x) hy)
  have HNX : Hid (wrap64 (wrap64 x - 1) = nx x) := Lib.hid (by unfold nx; simp only [wrap64, IntKind.wrap_i64])
  clear hea hs h1 h2 h3 hx hv hy
  rw [Array.empty_append]
  unfold bxv at HC
  unfold bxr at HC
  go_enter Try.func84, Try.ntmps84
  go_wp2_with fail
  rw [HNX.out]
  refine HC.out.mono ?_
  rintro e w2 hg
  obtain ⟨v, rfl⟩ := hg.ret
  have HF := Lib.hid hg
  clear hg HC
  go_wp2_with fail
  go_ret
  exact HF.out
set_option maxRecDepth 100000 in
set_option maxHeartbeats 1000000 in
theorem each1_takes {m : Nat} {f x : Int} {vd vt : Value} {w : World} {L : Lay} {bs bf bd bt : Nat} (hU : U64 x) (hf0 : 0 ≤ f) (hf1 : f < 4294967295)
    (hea : ∀ f w' L' n (σ : St S.R) rs y, Ext S w L w' L' → Inv S n σ rs L' w' → I64 f → eachTo kE T f σ = some y → Calls Try.prog 46 #[bxv S hd hq fl fd cd, .int .i64 f, vd, vt] w' (Gives S m n y rs L' w'))
    (hdo : DoOK S kE D T vd w L) (hs : BB S w L bs hd hq fl fd cd) (h1 : Box S w L bf (.int .i64 f)) (h2 : Box S w L bd vd) (h3 : Box S w L bt vt) :
    Takes S m #[.int .u64 x] (D f x) (.func (.func 83) #[] #[.pointer (some ⟨bd, 0, none⟩), .pointer (some ⟨bf, 0, none⟩), .pointer (some ⟨bs, 0, none⟩), .pointer (some ⟨bt, 0, none⟩)]) w L := by
  refine ⟨_, _, rfl, enters_of Try.func83 (by kernel_rfl) rfl, fun q w' L' σ rs y hx hv hy => ?_⟩
  have ma : Made w' (w'.alloc (.cells #[.int .u64 x] 58)) := (Made.refl w').alloc (Nat.le_refl _) _
  have ea := Ext.of_made (S := S) (L := L') ma
  have bn : Box S (w'.alloc (.cells #[.int .u64 x] 58)) L' w'.heap.size (.int .u64 x) := Box.new (fun k hk => hv.mut_lt hk) rfl
  have c1 := ((h1.later hx).later ea).cell
  have c2 := ((h2.later hx).later ea).cell
  obtain ⟨fo, co, rfl, ho, hc⟩ := hdo
  have hen : ∀ (args : Array Value) (w : World), (callFunc fo args).run Try.prog w = .ok (.enter fo args) w := ho
  have HC : Hid (Calls Try.prog fo (#[.int .i64 f, .func (.func 84) #[] #[.pointer (some ⟨bs, 0, none⟩), .pointer (some ⟨w'.heap.size, 0, none⟩), .pointer (some ⟨bd, 0, none⟩), .pointer (some ⟨bt, 0, none⟩)]] ++ co) (w'.alloc (.cells #[.int .u64 x] 58)) (Gives S m q y rs L' w')) :=
    (hc m q _ L' σ rs y f x _ (hx.trans ea) (hv.later ma) hU hf0 hf1 (each2_takes (fun f w2 L2 n σ rs y hx2 => hea f w2 L2 n σ rs y ((hx.trans ea).trans hx2)) ((hs.later hx).later ea) bn ((h2.later hx).later ea) ((h3.later hx).later ea)) hy).mono fun e w2 hg => hg.ext ea (hv.keeps_made ma)
  have hmf : ∀ (fn : Fn) (first cap : Array Value) (w : World), (Instr.makeFunc fn first cap).run Try.prog w = .ok (.func fn first cap) w := fun _ _ _ _ => rfl
  clear hea hs h1 h2 h3 hx hv hy hc bn ma ea hU hf0 hf1
  go_enter Try.func83, Try.ntmps83
  go_wp2_with fail
  refine HC.out.mono ?_
  rintro e w2 hg
  obtain ⟨v, rfl⟩ := hg.ret
  have HF := Lib.hid hg
  clear hg HC
  go_wp2_with fail
  go_ret
  exact HF.out
/-- Where Each goes on. -/
def eaW (S : Sys) (hd hq : Int) (fl fd : FuncId) (cd : Array Value) (w : World) (f : Int) (vd vt : Value) : World := (((w.alloc (.cells (bxr S hd hq fl fd cd) 31)).alloc (.cells #[.int .i64 f] 3)).alloc (.cells #[vd] 112)).alloc (.cells #[vt] 39)
theorem eaW_made (w : World) (f : Int) (vd vt : Value) : Made w (eaW S hd hq fl fd cd w f vd vt) :=
  ((((Made.refl w).alloc (Nat.le_refl _) _).alloc (by simp only [World.size_alloc]; omega) _).alloc (by simp only [World.size_alloc]; omega) _).alloc (by simp only [World.size_alloc]; omega) _
theorem eaW_boxes {w : World} {L : Lay} (f : Int) (vd vt : Value) (hL : ∀ k, Mut S L k → k < w.heap.size) : BB S (eaW S hd hq fl fd cd w f vd vt) L w.heap.size hd hq fl fd cd ∧ Box S (eaW S hd hq fl fd cd w f vd vt) L (w.heap.size + 1) (.int .i64 f) ∧ Box S (eaW S hd hq fl fd cd w f vd vt) L (w.heap.size + 1 + 1) vd ∧ Box S (eaW S hd hq fl fd cd w f vd vt) L (w.heap.size + 1 + 1 + 1) vt := by
  have m0 : Made w (w.alloc (.cells (bxr S hd hq fl fd cd) 31)) := (Made.refl w).alloc (Nat.le_refl _) _
  have m1 : Made (w.alloc (.cells (bxr S hd hq fl fd cd) 31)) ((w.alloc (.cells (bxr S hd hq fl fd cd) 31)).alloc (.cells #[.int .i64 f] 3)) := (Made.refl _).alloc (Nat.le_refl _) _
  have m2 : Made ((w.alloc (.cells (bxr S hd hq fl fd cd) 31)).alloc (.cells #[.int .i64 f] 3)) (((w.alloc (.cells (bxr S hd hq fl fd cd) 31)).alloc (.cells #[.int .i64 f] 3)).alloc (.cells #[vd] 112)) := (Made.refl _).alloc (Nat.le_refl _) _
  have m3 : Made (((w.alloc (.cells (bxr S hd hq fl fd cd) 31)).alloc (.cells #[.int .i64 f] 3)).alloc (.cells #[vd] 112)) (eaW S hd hq fl fd cd w f vd vt) := (Made.refl _).alloc (Nat.le_refl _) _
  have z0 : ∀ k, Mut S L k → k < (w.alloc (.cells (bxr S hd hq fl fd cd) 31)).heap.size := fun k hk => Nat.lt_of_lt_of_le (hL k hk) m0.size
  have z1 : ∀ k, Mut S L k → k < ((w.alloc (.cells (bxr S hd hq fl fd cd) 31)).alloc (.cells #[.int .i64 f] 3)).heap.size := fun k hk => Nat.lt_of_lt_of_le (z0 k hk) m1.size
  have z2 : ∀ k, Mut S L k → k < (((w.alloc (.cells (bxr S hd hq fl fd cd) 31)).alloc (.cells #[.int .i64 f] 3)).alloc (.cells #[vd] 112)).heap.size := fun k hk => Nat.lt_of_lt_of_le (z1 k hk) m2.size
  exact ⟨(((BB.new hL).later (Ext.of_made m1)).later (Ext.of_made m2)).later (Ext.of_made m3), ((Box.new z0 (by simp only [World.size_alloc])).later (Ext.of_made m2)).later (Ext.of_made m3), (Box.new z1 (by simp only [World.size_alloc])).later (Ext.of_made m3), Box.new z2 (by simp only [World.size_alloc])⟩
set_option maxRecDepth 100000 in
set_option maxHeartbeats 1000000 in
theorem Each_neg {m q : Nat} {f : Int} {σ : St S.R} {rs : List Value} {y : S.K × St S.R} {vd vt : Value} {w : World} {L : Lay} (hsd : ∃ f cap, vd = .func (.func f) #[] cap) (hv : Inv S q σ rs L w) (hf : f < 0) (ht : Takes S m #[] T vt w L) (hy : T σ = some y) : Calls Try.prog 46 #[bxv S hd hq fl fd cd, .int .i64 f, vd, vt] w (Gives S m q y rs L w) := by
  obtain ⟨ft, ct, rfl, hft, hc⟩ := ht
  obtain ⟨fo, co, rfl⟩ := hsd
  have hen : ∀ (args : Array Value) (w : World), (callFunc ft args).run Try.prog w = .ok (.enter ft args) w := hft
  have mm := eaW_made (S := S) (hd := hd) (hq := hq) (fl := fl) (fd := fd) (cd := cd) w f (.func (.func fo) #[] co) (.func (.func ft) #[] ct)
  have HC : Hid (Calls Try.prog ft ct (eaW S hd hq fl fd cd w f (.func (.func fo) #[] co) (.func (.func ft) #[] ct)) (Gives S m q y rs L w)) := by
    have h := (hc q _ L σ rs y (Ext.of_made mm) (hv.later mm) hy).mono fun e w2 hg => hg.ext (Ext.of_made mm) (hv.keeps_made mm)
    rw [Array.empty_append] at h
    exact h
  clear hc mm hv hy
  unfold eaW at HC
  unfold bxv
  unfold bxr at *
  go_enter Try.func46, Try.ntmps46
  go_wp2_with fail
  refine HC.out.mono ?_
  rintro e w2 hg
  obtain ⟨v, rfl⟩ := hg.ret
  have HF := Lib.hid hg
  clear hg HC
  go_wp2_with fail
  go_ret
  exact HF.out
set_option maxRecDepth 100000 in
set_option maxHeartbeats 1000000 in
theorem Each_pos {m q : Nat} {f : Int} {σ : St S.R} {rs : List Value} {vd vt : Value} {w : World} {L : Lay} (hsd : ∃ f cap, vd = .func (.func f) #[] cap) (hst : ∃ f cap, vt = .func (.func f) #[] cap) (hlk : LinkOK fl lk) (hv : Inv S q σ rs L w) (hf0 : 0 ≤ f) (hf1 : f < 4294967295)
    (h : ∀ w1, Made (eaW S hd hq fl fd cd w f vd vt) w1 → Calls Try.prog 42 #[.pointer (some ⟨S.a, 0, none⟩), .int .i64 (lk f), .func (.func 83) #[] #[.pointer (some ⟨w.heap.size + 1 + 1, 0, none⟩), .pointer (some ⟨w.heap.size + 1, 0, none⟩), .pointer (some ⟨w.heap.size, 0, none⟩), .pointer (some ⟨w.heap.size + 1 + 1 + 1, 0, none⟩)]] w1 (Makes S m (kE f) L w1)) :
    Calls Try.prog 46 #[bxv S hd hq fl fd cd, .int .i64 f, vd, vt] w (Gives S m q (kE f, σ) rs L w) := by
  obtain ⟨fo, co, rfl⟩ := hsd
  obtain ⟨ft, ct, rfl⟩ := hst
  have mm := eaW_made (S := S) (hd := hd) (hq := hq) (fl := fl) (fd := fd) (cd := cd) w f (.func (.func fo) #[] co) (.func (.func ft) #[] ct)
  obtain ⟨hb, h1, h2, h3⟩ := eaW_boxes (S := S) (hd := hd) (hq := hq) (fl := fl) (fd := fd) (cd := cd) f (.func (.func fo) #[] co) (.func (.func ft) #[] ct) (fun k hk => hv.mut_lt hk)
  have md : Made (eaW S hd hq fl fd cd w f (.func (.func fo) #[] co) (.func (.func ft) #[] ct)) (eaW S hd hq fl fd cd w f (.func (.func fo) #[] co) (.func (.func ft) #[] ct)).drew := Made.drewN _ 1
  have HC : Hid (Calls Try.prog 42 #[.pointer (some ⟨S.a, 0, none⟩), .int .i64 (lk f), .func (.func 83) #[] #[.pointer (some ⟨w.heap.size + 1 + 1, 0, none⟩), .pointer (some ⟨w.heap.size + 1, 0, none⟩), .pointer (some ⟨w.heap.size, 0, none⟩), .pointer (some ⟨w.heap.size + 1 + 1 + 1, 0, none⟩)]] (eaW S hd hq fl fd cd w f (.func (.func fo) #[] co) (.func (.func ft) #[] ct)).drew fun e w4 => Hid (Gives S m q (kE f, σ) rs L w e w4) ∧ w4.cell? ⟨w.heap.size, 0, none⟩ = some (.pointer (some ⟨S.a, 0, none⟩)) ∧ w4.cell? ⟨w.heap.size, 2, none⟩ = some (.func (.func fl) #[] #[]) ∧ w4.cell? ⟨w.heap.size + 1, 0, none⟩ = some (.int .i64 f) ∧ ∃ v, e = .returned v) := (h _ md).mono fun e w4 hmk => by
    have hg := hmk.gives' (Made.trans mm md) hv
    obtain ⟨v, rfl, m4, _⟩ := hmk
    have e4 := (Ext.of_made (S := S) (L := L) md).trans (Ext.of_made m4)
    exact ⟨hg, (hb.later e4).c0, (hb.later e4).c2, (h1.later e4).cell, v, rfl⟩
  have HLK := Lib.hid (hlk.calls f)
  have hen : ∀ (args : Array Value) (w : World), (callFunc fl args).run Try.prog w = .ok (.enter fl args) w := hlk.enters
  have hmf : ∀ (fn : Fn) (first cap : Array Value) (w : World), (Instr.makeFunc fn first cap).run Try.prog w = .ok (.func fn first cap) w := fun _ _ _ _ => rfl
  have c0 := hb.c0
  have c2 := hb.c2
  have c1 := h1.cell
  have hi1 : f ≤ 4294967295 := by omega
  have hge : ¬ f < 0 := by omega
  clear h mm hb h1 h2 h3 md hv hlk
  unfold bxv
  have HE : Hid ((((w.alloc (.cells (bxr S hd hq fl fd cd) 31)).alloc (.cells #[.int .i64 f] 3)).alloc (.cells #[.func (.func fo) #[] co] 112)).alloc (.cells #[.func (.func ft) #[] ct] 39) = eaW S hd hq fl fd cd w f (.func (.func fo) #[] co) (.func (.func ft) #[] ct)) := rfl
  generalize eaW S hd hq fl fd cd w f (.func (.func fo) #[] co) (.func (.func ft) #[] ct) = wb at *
  unfold bxr at *
  go_enter Try.func46, Try.ntmps46
  go_wp2_with fail
  rw [HE.out]
  generalize w.heap.size = g0 at *
  clear HE
  go_region_held3 (fun w1 => w1.cell? ⟨g0, 0, none⟩ = some (.pointer (some ⟨S.a, 0, none⟩)) ∧ w1.cell? ⟨g0, 2, none⟩ = some (.func (.func fl) #[] #[]) ∧ w1.cell? ⟨g0 + 1, 0, none⟩ = some (.int .i64 f)) (first | (refine ⟨?_, ?_, ?_⟩ <;> first | assumption | simpa using c0 | simpa using c2 | simpa using c1)) (first | (go_at_fn fl; refine (HLK.out _ hf0 hi1).mono ?_; rintro e w3 ⟨rfl, rfl⟩) | (go_at_call 42; refine HC.out.mono ?_; rintro e w4 ⟨HG4, e0, e2, e1, v, rfl⟩))
  all_goals
    go_wp2_with fail
    go_ret
    exact HG4.out
theorem Each_c (P : EachK S lk kE D) (hlk : LinkOK fl lk) : ∀ (m : Nat) (f : Int) (vd vt : Value) (w : World) (L : Lay) (n : Nat) (σ : St S.R) (rs : List Value) (y : S.K × St S.R), Inv S n σ rs L w → I64 f → DoOK S kE D T vd w L → Takes S m #[] T vt w L → eachTo kE T f σ = some y →
    Calls Try.prog 46 #[bxv S hd hq fl fd cd, .int .i64 f, vd, vt] w (Gives S m n y rs L w) := by
  intro m
  induction m with
  | zero =>
    intro f vd vt w L n σ rs y hi h64 hdo ht hy
    unfold eachTo at hy
    split at hy
    · exact Each_neg hdo.func hi ‹_› ht hy
    · split at hy
      · obtain rfl : (kE f, σ) = y := by simpa using hy
        exact Each_pos hdo.func ht.func hlk hi (by omega) ‹_› fun w1 hm1 => Load_shape (P.nE f)
      · simp at hy
  | succ m ih =>
    intro f vd vt w L n σ rs y hi h64 hdo ht hy
    have hy0 := hy
    unfold eachTo at hy
    split at hy
    · exact Each_neg hdo.func hi ‹_› ht hy
    · split at hy
      · obtain rfl : (kE f, σ) = y := by simpa using hy
        have mm := eaW_made (S := S) (hd := hd) (hq := hq) (fl := fl) (fd := fd) (cd := cd) w f vd vt
        obtain ⟨hb, h1, h2, h3⟩ := eaW_boxes (S := S) (hd := hd) (hq := hq) (fl := fl) (fd := fd) (cd := cd) f vd vt (fun k hk => hi.mut_lt hk)
        refine Each_pos hdo.func ht.func hlk hi (by omega) ‹_› fun w1 hm1 => ?_
        have e1 := Ext.of_made (S := S) (L := L) hm1
        have e2 := (Ext.of_made (S := S) (L := L) mm).trans e1
        refine Load_mk (S := S) (k := kE f) (i := lk f) (G := D f) (fun k hk => ((hi.later mm).later hm1).mut_lt hk) (P.nE f) (P.sE f) (fun x u0 u1 => ?_)
        exact each1_takes ⟨u0, u1⟩ (by omega) ‹_› (fun f2 w2 L2 n2 σ2 rs2 y2 hx2 hi2 h642 hy2 => ih f2 vd vt w2 L2 n2 σ2 rs2 y2 hi2 h642 (hdo.later (e2.trans hx2)) (ht.lower.later (e2.trans hx2)) hy2) (hdo.later e2) (hb.later e1) (h1.later e1) (h2.later e1) (h3.later e1)
      · simp at hy
end Go.Proofs.Ytndpkonihcebeaa.Kod
