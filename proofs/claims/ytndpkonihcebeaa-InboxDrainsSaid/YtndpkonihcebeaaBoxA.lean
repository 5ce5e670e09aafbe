/- Package inbox, walked: what its functions share; Drain (over whatever system). -/
import Derived.Test.YtndpkonihcebeaaKtk2
namespace Go.Proofs.Ytndpkonihcebeaa.Kod
open Go.RowKit Go.Proofs.Ytndpkonihcebeaa Go.Proofs.Ytndpkonihcebeaa.Cell Go.Proofs.Ytndpkonihcebeaa.Wd
set_option linter.unusedVariables false
set_option linter.unusedSimpArgs false
variable {S : Sys} {hd hq : Int} {fl fd : FuncId} {cd : Array Value} {lk : Int → Int}

theorem Makes.from {m : Nat} {k : S.K} {L : Lay} {w w1 w2 : World} {e : Ending} (h : Makes S m k L w1 e w2) (hm : Made w w1) : Makes S m k L w e w2 := by
  obtain ⟨v, e1, m3, r3⟩ := h
  exact ⟨v, e1, Made.trans hm m3, r3⟩
/-- A box's cells. -/
def bxr (S : Sys) (hd hq : Int) (fl fd : FuncId) (cd : Array Value) : Array Value := #[.pointer (some ⟨S.a, 0, none⟩), .int .i64 hd, .func (.func fl) #[] #[], .func (.func fd) #[] cd, .pointer (some ⟨S.a, 0, none⟩), .int .i64 hq, .func (.func fl) #[] #[]]
/-- A box, by value. -/
def bxv (S : Sys) (hd hq : Int) (fl fd : FuncId) (cd : Array Value) : Value := .agg (bxr S hd hq fl fd cd)
/-- A box in a box of its own. -/
structure BB (S : Sys) (w : World) (L : Lay) (b : Nat) (hd hq : Int) (fl fd : FuncId) (cd : Array Value) : Prop where
  lt : b < w.heap.size
  apart : ¬ Mut S L b
  row : w.heap[b]? = some (.cells (bxr S hd hq fl fd cd) 31 (0, 0))
theorem BB.later {w w' : World} {L L' : Lay} {b : Nat} (h : BB S w L b hd hq fl fd cd) (e : Ext S w L w' L') : BB S w' L' b hd hq fl fd cd :=
  ⟨Nat.lt_of_lt_of_le h.lt e.size, (e.block b h.lt h.apart).1, (e.block b h.lt h.apart).2.trans h.row⟩
theorem BB.new {w : World} {L : Lay} (hL : ∀ k, Mut S L k → k < w.heap.size) : BB S (w.alloc (.cells (bxr S hd hq fl fd cd) 31)) L w.heap.size hd hq fl fd cd :=
  ⟨by simp only [World.size_alloc]; omega, fun e => by have := hL _ e; omega, heap_alloc_new _ _⟩
theorem bx_cell {w : World} {b o : Nat} {v : Value} (h : w.heap[b]? = some (.cells (bxr S hd hq fl fd cd) 31 (0, 0))) (hv : (bxr S hd hq fl fd cd)[o]? = some v) : w.cell? ⟨b, o, none⟩ = some v := by
  rw [cell_of_row _ _ _ _ _ _ h]
  exact hv
theorem BB.c0 {w : World} {L : Lay} {b : Nat} (h : BB S w L b hd hq fl fd cd) : w.cell? ⟨b, 0, none⟩ = some (.pointer (some ⟨S.a, 0, none⟩)) := bx_cell h.row rfl
theorem BB.c1 {w : World} {L : Lay} {b : Nat} (h : BB S w L b hd hq fl fd cd) : w.cell? ⟨b, 1, none⟩ = some (.int .i64 hd) := bx_cell h.row rfl
theorem BB.c2 {w : World} {L : Lay} {b : Nat} (h : BB S w L b hd hq fl fd cd) : w.cell? ⟨b, 2, none⟩ = some (.func (.func fl) #[] #[]) := bx_cell h.row rfl
theorem BB.c3 {w : World} {L : Lay} {b : Nat} (h : BB S w L b hd hq fl fd cd) : w.cell? ⟨b, 3, none⟩ = some (.func (.func fd) #[] cd) := bx_cell h.row rfl
theorem BB.c4 {w : World} {L : Lay} {b : Nat} (h : BB S w L b hd hq fl fd cd) : w.cell? ⟨b, 4, none⟩ = some (.pointer (some ⟨S.a, 0, none⟩)) := bx_cell h.row rfl
theorem BB.c5 {w : World} {L : Lay} {b : Nat} (h : BB S w L b hd hq fl fd cd) : w.cell? ⟨b, 5, none⟩ = some (.int .i64 hq) := bx_cell h.row rfl
theorem BB.c6 {w : World} {L : Lay} {b : Nat} (h : BB S w L b hd hq fl fd cd) : w.cell? ⟨b, 6, none⟩ = some (.func (.func fl) #[] #[]) := bx_cell h.row rfl

theorem BB.cells {w : World} {L : Lay} {b : Nat} (h : BB S w L b hd hq fl fd cd) : w.cell? ⟨b, 0, none⟩ = some (.pointer (some ⟨S.a, 0, none⟩)) ∧ w.cell? ⟨b, 1, none⟩ = some (.int .i64 hd) ∧ w.cell? ⟨b, 2, none⟩ = some (.func (.func fl) #[] #[]) ∧ w.cell? ⟨b, 3, none⟩ = some (.func (.func fd) #[] cd) ∧ w.cell? ⟨b, 4, none⟩ = some (.pointer (some ⟨S.a, 0, none⟩)) ∧ w.cell? ⟨b, 5, none⟩ = some (.int .i64 hq) ∧ w.cell? ⟨b, 6, none⟩ = some (.func (.func fl) #[] #[]) := ⟨h.c0, h.c1, h.c2, h.c3, h.c4, h.c5, h.c6⟩
set_option maxRecDepth 100000 in
set_option maxHeartbeats 1000000 in
theorem turn_walk {m : Nat} {k : S.K} {h i : Int} {w : World} {L : Lay} {f : FuncId} {cap : Array Value} (hU : U64 h) (hi : I64 i)
    (hc : ∀ w1, Made w w1 → Calls Try.prog 112 #[.pointer (some ⟨S.a, 0, none⟩), .int .i64 hd, .int .u64 h, .int .u64 (turnTo h i), .func (.func f) #[] cap] w1 (Makes S m k L w1)) :
    Calls Try.prog 81 #[bxv S hd hq fl fd cd, .int .u64 h, .int .i64 i, .func (.func f) #[] cap] w (Makes S m k L w) := by
  have hb : 0 ≤ ct h ∧ ct h < 4294967296 := by unfold ct; have := hU.1; have := hU.2; omega
  have HA : Hid (Go.bits .and .i64 (ct h + 1) 4294967295 = (ct h + 1) % 4294967296) := by
    show _ = _
    obtain ⟨n, hn⟩ := Int.eq_ofNat_of_zero_le hb.1
    rw [hn, show ((n : Int) + 1) = ((n + 1 : Nat) : Int) by omega, and32 _ (by omega)]
    omega
  have HW := Lib.hid (HeadWord_c ((ct h + 1) % 4294967296) i (by unfold I64; omega) hi)
  have HE := Lib.hid (headPacked_turn h i hU)
  have HH := Lib.hid (HeadOf_i h hU)
  have HM : Hid (∀ w1, Made (w.alloc (.cells (bxr S hd hq fl fd cd) 31)) w1 → w1.cell? ⟨w.heap.size, 0, none⟩ = some (.pointer (some ⟨S.a, 0, none⟩)) ∧ w1.cell? ⟨w.heap.size, 1, none⟩ = some (.int .i64 hd) ∧ Hid (Calls Try.prog 112 #[.pointer (some ⟨S.a, 0, none⟩), .int .i64 hd, .int .u64 h, .int .u64 (turnTo h i), .func (.func f) #[] cap] w1 (Makes S m k L w))) := fun w1 hm1 => by
    have hr := (hm1.block w.heap.size (by simp only [World.size_alloc]; omega)).trans (heap_alloc_new w (.cells (bxr S hd hq fl fd cd) 31))
    have hm := Made.trans ((Made.refl w).alloc (Nat.le_refl _) _) hm1
    exact ⟨bx_cell hr rfl, bx_cell hr rfl, (hc w1 hm).mono fun e w2 ⟨v, e1, m2, r2⟩ => ⟨v, e1, Made.trans hm m2, r2⟩⟩
  have hb0 := hb.1
  have hb1 := hb.2
  clear hU hi hb hc
  generalize ct h = q at *
  generalize ix h = r at *
  have hf0 := field0
  unfold bxv
  unfold bxr at *
  go_enter Try.func81, Try.ntmps81
  go_wp2_with fail
  refine (HH.out _).mono ?_
  rintro e w1 ⟨rfl, hm1⟩
  have HM1 := Lib.hid hm1
  clear hm1
  go_wp2_with fail
  rw [HA.out]
  refine (HW.out _).mono ?_
  rintro e w2 ⟨rfl, hm2⟩
  obtain ⟨c0, c1, HC⟩ := HM.out w2 (Made.trans HM1.out hm2)
  clear hm2 HM HM1
  rw [HE.out]
  go_wp2_with fail
  refine HC.out.mono ?_
  rintro e w2 hg
  obtain ⟨v, rfl⟩ := hg.ret
  have HF := Lib.hid hg
  clear hg HC
  go_wp2_with fail
  go_ret
  exact HF.out

set_option maxRecDepth 100000 in
set_option maxHeartbeats 1000000 in
theorem head_walk {m : Nat} {k : S.K} {w : World} {L : Lay} {f : FuncId} {cap : Array Value} (h : Calls Try.prog 42 #[.pointer (some ⟨S.a, 0, none⟩), .int .i64 hd, .func (.func 110) #[] #[.pointer (some ⟨w.heap.size + 1, 0, none⟩)]] ((w.alloc (.cells (bxr S hd hq fl fd cd) 31)).alloc (.cells #[.func (.func f) #[] cap] 146)) (Makes S m k L ((w.alloc (.cells (bxr S hd hq fl fd cd) 31)).alloc (.cells #[.func (.func f) #[] cap] 146)))) :
    Calls Try.prog 79 #[bxv S hd hq fl fd cd, .func (.func f) #[] cap] w (Makes S m k L w) := by
  have HM : Made w ((w.alloc (.cells (bxr S hd hq fl fd cd) 31)).alloc (.cells #[.func (.func f) #[] cap] 146)) := ((Made.refl w).alloc (Nat.le_refl _) _).alloc (by simp only [World.size_alloc]; omega) _
  have HC := Lib.hid (h.mono  fun e w3 hm => hm.from HM)
  have hmf : ∀ (fn : Fn) (first cap : Array Value) (w : World), (Instr.makeFunc fn first cap).run Try.prog w = .ok (.func fn first cap) w := fun _ _ _ _ => rfl
  clear h HM
  unfold bxv
  unfold bxr at *
  go_enter Try.func79, Try.ntmps79
  go_wp2_with fail
  refine HC.out.mono ?_
  rintro e w2 hg
  obtain ⟨v, rfl⟩ := hg.ret
  have HF := Lib.hid hg
  clear hg HC
  go_wp2_with fail
  go_ret
  exact HF.out
set_option maxRecDepth 100000 in
set_option maxHeartbeats 1000000 in
theorem head1_takes {m : Nat} {h : Int} {vt : Value} {w : World} {L : Lay} {bt : Nat} {F : St S.R → Option (S.K × St S.R)} (hU : U64 h) (ht : Takes S m #[.int .u64 h, .int .i64 (ix h)] F vt w L) (h1 : Box S w L bt vt) :
    Takes S m #[.int .u64 h] F (.func (.func 110) #[] #[.pointer (some ⟨bt, 0, none⟩)]) w L := by
  refine ⟨_, _, rfl, enters_of Try.func110 (by kernel_rfl) rfl, fun q w' L' σ rs y hx hv hy => ?_⟩
  obtain ⟨f, cap, rfl, hf, hc⟩ := ht
  have hen : ∀ (args : Array Value) (w : World), (callFunc f args).run Try.prog w = .ok (.enter f args) w := hf
  have b1 := h1.later hx
  have c1 := b1.cell
  have HT : Hid (Calls Try.prog 56 #[.int .u64 h] w'.drew fun e w1 => e = .returned (.agg #[.int .i64 (ct h), .int .i64 (ix h)]) ∧ w1.cell? ⟨bt, 0, none⟩ = some (.func (.func f) #[] cap) ∧ Hid (Calls Try.prog f (#[.int .u64 h, .int .i64 (ix h)] ++ cap) w1 fun e w2 => Hid (Gives S m q y rs L' w' e w2) ∧ w2.cell? ⟨bt, 0, none⟩ = some (.func (.func f) #[] cap) ∧ ∃ v, e = .returned v)) :=
    (HeadOf_i h hU w'.drew).mono fun e w1 ⟨he, hm⟩ => by
      have hm1 : Made w' w1 := Made.trans (Made.drewN w' 1) hm
      have e1 := Ext.of_made (S := S) (L := L') hm1
      refine ⟨he, (b1.later e1).cell, (hc q w1 L' σ rs y (hx.trans e1) (hv.later hm1) hy).mono fun e w2 hg => ?_⟩
      have hg2 := hg.ext e1 (hv.keeps_made hm1)
      obtain ⟨v, rfl⟩ := hg.ret
      exact ⟨hg2, b1.given hg2, v, rfl⟩
  have hfd := field1
  clear hc h1 hx hv b1 hU hy
  go_enter Try.func110, Try.ntmps110
  go_wp2_with fail
  go_region_held3 (fun w1 => w1.cell? ⟨bt, 0, none⟩ = some (.func (.func f) #[] cap)) (first | assumption | simpa using c1) (first | (go_at_call 56; refine HT.out.mono ?_; rintro e w1 ⟨rfl, d0, HC2⟩) | (go_at_fn f; refine HC2.out.mono ?_; rintro e w2 ⟨HG, e0, v, rfl⟩))
  all_goals
    go_wp2_with fail
    go_ret
    exact HG.out
theorem head_mk {m : Nat} {k : S.K} {G : Int → St S.R → Option (S.K × St S.R)} {vt : Value} {w : World} {L : Lay} (hL : ∀ k, Mut S L k → k < w.heap.size) (hk : S.nil k = false) (hn : ∀ σ, S.next k σ = G (σ.ld hd).1 (σ.ld hd).2)
    (ht : ∀ x, U64 x → Takes S m #[.int .u64 x, .int .i64 (ix x)] (G x) vt w L) : Calls Try.prog 79 #[bxv S hd hq fl fd cd, vt] w (Makes S (m + 1) k L w) := by
  obtain ⟨f, cap, rfl⟩ := (ht 0 (by unfold U64; omega)).func
  have m0 : Made w (w.alloc (.cells (bxr S hd hq fl fd cd) 31)) := (Made.refl w).alloc (Nat.le_refl _) _
  have m1 : Made (w.alloc (.cells (bxr S hd hq fl fd cd) 31)) ((w.alloc (.cells (bxr S hd hq fl fd cd) 31)).alloc (.cells #[.func (.func f) #[] cap] 146)) := (Made.refl _).alloc (Nat.le_refl _) _
  have m2 := Made.trans m0 m1
  refine head_walk (Load_mk (S := S) (k := k) (i := hd) (G := G) (fun k hk => Nat.lt_of_lt_of_le (hL k hk) m2.size) hk hn (fun x u0 u1 => head1_takes ⟨u0, u1⟩ ((ht x ⟨u0, u1⟩).later (Ext.of_made m2)) ?_))
  exact Box.new (fun k hk => Nat.lt_of_lt_of_le (hL k hk) m0.size) (by simp only [World.size_alloc])
theorem head_shape {k : S.K} {w : World} {L : Lay} {f : FuncId} {cap : Array Value} (hk : S.nil k = false) : Calls Try.prog 79 #[bxv S hd hq fl fd cd, .func (.func f) #[] cap] w (Makes S 0 k L w) := head_walk (Load_shape hk)

/-- What Drain does, step by step. -/
structure DrainK (S : Sys) (hd : Int) (kL : S.K) (kC : Int → S.K) (T : Int → St S.R → Option (S.K × St S.R)) : Prop where
  nL : S.nil kL = false
  nC : ∀ h, S.nil (kC h) = false
  sL : ∀ σ, S.next kL σ = if ix (σ.ld hd).1 < 0 then T (-1) (σ.ld hd).2 else some (kC (σ.ld hd).1, (σ.ld hd).2)
  sC : ∀ h σ, S.next (kC h) σ = if (σ.cas hd h (turnTo h (-1))).1 then T (ix h) (σ.cas hd h (turnTo h (-1))).2 else some (kL, (σ.cas hd h (turnTo h (-1))).2)
variable {kL : S.K} {kC : Int → S.K} {T : Int → St S.R → Option (S.K × St S.R)}
set_option maxRecDepth 100000 in
set_option maxHeartbeats 1000000 in
theorem drain2_takes {m : Nat} {i : Int} {vt : Value} {w : World} {L : Lay} {bs bt bi : Nat}
    (hdr : ∀ w' L' n (σ : St S.R) rs, Ext S w L w' L' → Inv S n σ rs L' w' → Calls Try.prog 44 #[bxv S hd hq fl fd cd, vt] w' (Makes S m kL L' w'))
    (ht : Takes S m #[.int .i64 i] (T i) vt w L) (hs : BB S w L bs hd hq fl fd cd) (h1 : Box S w L bt vt) (h2 : Box S w L bi (.int .i64 i)) (ok : Bool) :
    Takes S m #[.bool ok] (fun σ => if ok then T i σ else some (kL, σ)) (.func (.func 82) #[] #[.pointer (some ⟨bs, 0, none⟩), .pointer (some ⟨bt, 0, none⟩), .pointer (some ⟨bi, 0, none⟩)]) w L := by
  refine ⟨_, _, rfl, enters_of Try.func82 (by kernel_rfl) rfl, fun q w' L' σ rs y hx hv hy => ?_⟩
  obtain ⟨f, cap, rfl, hf, hc⟩ := ht
  obtain ⟨d0, d1, d2, d3, d4, d5, d6⟩ := (hs.later hx).cells
  have c1 := (h1.later hx).cell
  have c2 := (h2.later hx).cell
  have hen : ∀ (args : Array Value) (w : World), (callFunc f args).run Try.prog w = .ok (.enter f args) w := hf
  cases ok with
  | true =>
    have HC := Lib.hid (hc q w' L' σ rs y hx hv (by simpa using hy))
    clear hdr hc hs h1 h2 hx hv hy
    go_enter Try.func82, Try.ntmps82
    go_wp2_with fail
    refine HC.out.mono ?_
    rintro e w2 hg
    obtain ⟨v, rfl⟩ := hg.ret
    have HF := Lib.hid hg
    clear hg HC
    go_wp2_with fail
    go_ret
    exact HF.out
  | false =>
    obtain rfl : (kL, σ) = y := by simpa using hy
    have HC : Hid (Calls Try.prog 44 #[bxv S hd hq fl fd cd, .func (.func f) #[] cap] w' (Gives S m q (kL, σ) rs L' w')) := (hdr w' L' q σ rs hx hv).mono fun e w2 hm => hm.gives' (Made.refl _) hv
    clear hdr hc hs h1 h2 hx hv hy
    unfold bxv at HC
    unfold bxr at HC
    go_enter Try.func82, Try.ntmps82
    go_wp2_with fail
    refine HC.out.mono ?_
    rintro e w2 hg
    obtain ⟨v, rfl⟩ := hg.ret
    have HF := Lib.hid hg
    clear hg HC
    go_wp2_with fail
    go_ret
    exact HF.out
set_option maxRecDepth 100000 in
set_option maxHeartbeats 1000000 in
theorem drain1_takes {m : Nat} {h : Int} {vt : Value} {w : World} {L : Lay} {bs bt : Nat} (P : DrainK S hd kL kC T) (hU : U64 h)
    (hdr : ∀ w' L' n (σ : St S.R) rs, Ext S w L w' L' → Inv S n σ rs L' w' → Calls Try.prog 44 #[bxv S hd hq fl fd cd, vt] w' (Makes S m kL L' w'))
    (ht : ∀ i, -1 ≤ i → i < 4294967295 → Takes S m #[.int .i64 i] (T i) vt w L) (hs : BB S w L bs hd hq fl fd cd) (h1 : Box S w L bt vt) :
    Takes S m #[.int .u64 h, .int .i64 (ix h)] (fun σ => if ix h < 0 then T (-1) σ else some (kC h, σ)) (.func (.func 80) #[] #[.pointer (some ⟨bt, 0, none⟩), .pointer (some ⟨bs, 0, none⟩)]) w L := by
  refine ⟨_, _, rfl, enters_of Try.func80 (by kernel_rfl) rfl, fun q w' L' σ rs y hx hv hy => ?_⟩
  have hs' := hs.later hx
  have b1 := h1.later hx
  have ma : Made w' (w'.alloc (.cells #[.int .i64 (ix h)] 3)) := (Made.refl w').alloc (Nat.le_refl _) _
  have ea := Ext.of_made (S := S) (L := L') ma
  have bi : Box S (w'.alloc (.cells #[.int .i64 (ix h)] 3)) L' w'.heap.size (.int .i64 (ix h)) := Box.new (fun k hk => hv.mut_lt hk) rfl
  obtain ⟨d0, d1, d2, d3, d4, d5, d6⟩ := (hs'.later ea).cells
  have c1 := (b1.later ea).cell
  have ci := bi.cell
  have hlo := ix_lo h
  by_cases hneg : ix h < 0
  · obtain ⟨f, cap, rfl, hf, hc⟩ := ht (-1) (by omega) (by omega)
    have hen : ∀ (args : Array Value) (w : World), (callFunc f args).run Try.prog w = .ok (.enter f args) w := hf
    have HC : Hid (Calls Try.prog f (#[.int .i64 (-1)] ++ cap) (w'.alloc (.cells #[.int .i64 (ix h)] 3)) (Gives S m q y rs L' w')) := (hc q _ L' σ rs y (hx.trans ea) (hv.later ma) (by simpa [hneg] using hy)).mono fun e w2 hg => hg.ext ea (hv.keeps_made ma)
    clear hdr hc hs h1 hx hv hy hs' b1 ma ea bi P hU ht
    go_enter Try.func80, Try.ntmps80
    go_wp2_with fail
    refine HC.out.mono ?_
    rintro e w2 hg
    obtain ⟨v, rfl⟩ := hg.ret
    have HF := Lib.hid hg
    clear hg HC
    go_wp2_with fail
    go_ret
    exact HF.out
  · obtain ⟨f, cap, rfl⟩ := (ht (ix h) (by omega) (by omega)).func
    obtain rfl : (kC h, σ) = y := by simpa [hneg] using hy
    have HC : Hid (Calls Try.prog 81 #[bxv S hd hq fl fd cd, .int .u64 h, .int .i64 (-1), .func (.func 82) #[] #[.pointer (some ⟨bs, 0, none⟩), .pointer (some ⟨bt, 0, none⟩), .pointer (some ⟨w'.heap.size, 0, none⟩)]] (w'.alloc (.cells #[.int .i64 (ix h)] 3)) (Gives S m q (kC h, σ) rs L' w')) := by
      refine (turn_walk (S := S) (m := m + 1) (k := kC h) (L := L') hU (by unfold I64; omega) fun w1 hm1 => ?_).mono fun e w2 hm => hm.gives ma hv
      have e1 := Ext.of_made (S := S) (L := L') hm1
      exact Cas_mk (S := S) (k := kC h) (G := fun ok σ => if ok then T (ix h) σ else some (kL, σ)) (turnTo_wide h (-1)) (fun k hk => ((hv.later ma).later hm1).mut_lt hk) (P.nC h) (P.sC h) (fun ok => drain2_takes (fun w2 L2 n σ rs hx2 hi2 => hdr w2 L2 n σ rs (((hx.trans ea).trans e1).trans hx2) hi2) ((ht (ix h) (by omega) (by omega)).later ((hx.trans ea).trans e1)) ((hs'.later ea).later e1) ((b1.later ea).later e1) (bi.later e1) ok)
    have hmf : ∀ (fn : Fn) (first cap : Array Value) (w : World), (Instr.makeFunc fn first cap).run Try.prog w = .ok (.func fn first cap) w := fun _ _ _ _ => rfl
    have hge : ¬ ix h < 0 := hneg
    clear hdr hs h1 hx hv hy hs' b1 ma ea bi P hU ht
    unfold bxv at HC
    unfold bxr at HC
    go_enter Try.func80, Try.ntmps80
    go_wp2_with fail
    refine HC.out.mono ?_
    rintro e w2 hg
    obtain ⟨v, rfl⟩ := hg.ret
    have HF := Lib.hid hg
    clear hg HC
    go_wp2_with fail
    go_ret
    exact HF.out
set_option maxRecDepth 100000 in
set_option maxHeartbeats 1000000 in
theorem Drain_walk {m : Nat} {k : S.K} {w : World} {L : Lay} {f : FuncId} {cap : Array Value} (h : Calls Try.prog 79 #[bxv S hd hq fl fd cd, .func (.func 80) #[] #[.pointer (some ⟨w.heap.size + 1, 0, none⟩), .pointer (some ⟨w.heap.size, 0, none⟩)]] ((w.alloc (.cells (bxr S hd hq fl fd cd) 31)).alloc (.cells #[.func (.func f) #[] cap] 113)) (Makes S m k L ((w.alloc (.cells (bxr S hd hq fl fd cd) 31)).alloc (.cells #[.func (.func f) #[] cap] 113)))) :
    Calls Try.prog 44 #[bxv S hd hq fl fd cd, .func (.func f) #[] cap] w (Makes S m k L w) := by
  have HM : Made w ((w.alloc (.cells (bxr S hd hq fl fd cd) 31)).alloc (.cells #[.func (.func f) #[] cap] 113)) := ((Made.refl w).alloc (Nat.le_refl _) _).alloc (by simp only [World.size_alloc]; omega) _
  have HC := Lib.hid (h.mono  fun e w3 hm => hm.from HM)
  have hmf : ∀ (fn : Fn) (first cap : Array Value) (w : World), (Instr.makeFunc fn first cap).run Try.prog w = .ok (.func fn first cap) w := fun _ _ _ _ => rfl
  clear h HM
  unfold bxv at *
  unfold bxr at *
  go_enter Try.func44, Try.ntmps44
  go_wp2_with fail
  refine HC.out.mono ?_
  rintro e w2 hg
  obtain ⟨v, rfl⟩ := hg.ret
  have HF := Lib.hid hg
  clear hg HC
  go_wp2_with fail
  go_ret
  exact HF.out
theorem Drain_c (P : DrainK S hd kL kC T) : ∀ (m : Nat) (vt : Value) (w : World) (L : Lay) (n : Nat) (σ : St S.R) (rs : List Value), Inv S n σ rs L w →
    (∀ i, -1 ≤ i → i < 4294967295 → Takes S m #[.int .i64 i] (T i) vt w L) →
    Calls Try.prog 44 #[bxv S hd hq fl fd cd, vt] w (Makes S m kL L w) := by
  intro m
  induction m with
  | zero =>
    intro vt w L n σ rs hi ht
    obtain ⟨f, cap, rfl⟩ := (ht (-1) (by omega) (by omega)).func
    exact Drain_walk (head_shape P.nL)
  | succ m ih =>
    intro vt w L n σ rs hi ht
    obtain ⟨f, cap, rfl⟩ := (ht (-1) (by omega) (by omega)).func
    have m0 : Made w (w.alloc (.cells (bxr S hd hq fl fd cd) 31)) := (Made.refl w).alloc (Nat.le_refl _) _
    have m1 : Made (w.alloc (.cells (bxr S hd hq fl fd cd) 31)) ((w.alloc (.cells (bxr S hd hq fl fd cd) 31)).alloc (.cells #[.func (.func f) #[] cap] 113)) := (Made.refl _).alloc (Nat.le_refl _) _
    have m2 := Made.trans m0 m1
    refine Drain_walk (head_mk (S := S) (k := kL) (G := fun h σ => if ix h < 0 then T (-1) σ else some (kC h, σ)) (fun k hk => (hi.later m2).mut_lt hk) P.nL P.sL (fun h hU => ?_))
    exact drain1_takes P hU (fun w' L' n σ rs hx hi' => ih _ w' L' n σ rs hi' (fun i h0 h1 => (ht i h0 h1).lower.later ((Ext.of_made m2).trans hx))) (fun i h0 h1 => (ht i h0 h1).lower.later (Ext.of_made m2)) ((BB.new (fun k hk => hi.mut_lt hk)).later (Ext.of_made m1)) (Box.new (fun k hk => (hi.later m0).mut_lt hk) (by simp only [World.size_alloc]))
end Go.Proofs.Ytndpkonihcebeaa.Kod
