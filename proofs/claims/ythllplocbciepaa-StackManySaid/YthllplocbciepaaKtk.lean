/- Package stack, walked: Pop, in plain words (over whatever system). -/
import Derived.Test.YthllplocbciepaaKod7
import Derived.Test.YthllplocbciepaaHead
namespace Go.Proofs.Ythllplocbciepaa.Kod
open Go.RowKit Go.Proofs.Ythllplocbciepaa Go.Proofs.Ythllplocbciepaa.Cell Go.Proofs.Ythllplocbciepaa.Wd
set_option linter.unusedVariables false
set_option linter.unusedSimpArgs false
variable {S : Sys}

/-- A stack in a box of its own: its cells, its head, its links. -/
structure SBox (S : Sys) (w : World) (L : Lay) (b : Nat) (hd : Int) (fl : FuncId) : Prop where
  lt : b < w.heap.size
  apart : ¬ Mut S L b
  c0 : w.cell? ⟨b, 0, none⟩ = some (.pointer (some ⟨S.a, 0, none⟩))
  c1 : w.cell? ⟨b, 1, none⟩ = some (.int .i64 hd)
  c2 : w.cell? ⟨b, 2, none⟩ = some (.func (.func fl) #[] #[])
/-- A stack, by value. -/
def stk (S : Sys) (hd : Int) (fl : FuncId) : Value := .agg #[.pointer (some ⟨S.a, 0, none⟩), .int .i64 hd, .func (.func fl) #[] #[]]
theorem cell_later {w w' : World} {L L' : Lay} {b o : Nat} {v : Value} (e : Ext S w L w' L') (lt : b < w.heap.size) (apart : ¬ Mut S L b) (h : w.cell? ⟨b, o, none⟩ = some v) : w'.cell? ⟨b, o, none⟩ = some v := by
  have h1 := e.block b lt apart
  unfold World.cell? at h ⊢
  simp only at h ⊢
  rw [h1.2]
  exact h
theorem SBox.later {w w' : World} {L L' : Lay} {b : Nat} {hd : Int} {fl : FuncId} (h : SBox S w L b hd fl) (e : Ext S w L w' L') : SBox S w' L' b hd fl :=
  ⟨Nat.lt_of_lt_of_le h.lt e.size, (e.block b h.lt h.apart).1, cell_later e h.lt h.apart h.c0, cell_later e h.lt h.apart h.c1, cell_later e h.lt h.apart h.c2⟩
theorem SBox.new {w : World} {L : Lay} {hd : Int} {fl : FuncId} {t : TypeId} {b : Nat} (hL : ∀ k, Mut S L k → k < w.heap.size) (hb : b = w.heap.size) : SBox S (w.alloc (.cells #[.pointer (some ⟨S.a, 0, none⟩), .int .i64 hd, .func (.func fl) #[] #[]] t)) L b hd fl := by
  subst hb
  refine ⟨by simp only [World.size_alloc]; omega, fun e => by have := hL _ e; omega, ?_, ?_, ?_⟩ <;> (rw [cell_of_row _ _ _ _ _ _ (heap_alloc_new _ _)]; rfl)
/-- The links: of a place its cell. -/
structure LinkOK (fl : FuncId) (lk : Int → Int) : Prop where
  enters : Enters Try.prog fl
  calls : ∀ (i : Int) (w : World), 0 ≤ i → i ≤ 4294967295 → Calls Try.prog fl #[.int .i64 i] w fun e w' => e = .returned (.int .i64 (lk i)) ∧ w = w'
/-- The place that a link's word tells, as the code reads it. -/
def nx (x : Int) : Int := IntKind.i64.wrap (IntKind.i64.wrap x - 1)
theorem nx_small {x : Int} (h0 : 0 ≤ x) (h1 : x ≤ 4294967296) : nx x = x - 1 := by unfold nx; simp only [IntKind.wrap_i64]; omega
theorem nx_i64 (x : Int) : I64 (nx x) := by unfold nx I64; simp only [IntKind.wrap_i64]; omega

/-- What Pop does, step by step. -/
structure PopK (S : Sys) (hd : Int) (lk : Int → Int) (kL : S.K) (kN : Int → S.K) (kC : Int → Int → S.K) (T : Int → Bool → St S.R → Option (S.K × St S.R)) : Prop where
  nL : S.nil kL = false
  nN : ∀ h, S.nil (kN h) = false
  nC : ∀ h x, S.nil (kC h x) = false
  sL : ∀ σ, S.next kL σ = if ix (σ.ld hd).1 < 0 then T (-1) false (σ.ld hd).2 else some (kN (σ.ld hd).1, (σ.ld hd).2)
  sN : ∀ h σ, S.next (kN h) σ = some (kC h (σ.ld (lk (ix h))).1, (σ.ld (lk (ix h))).2)
  sC : ∀ h x σ, S.next (kC h x) σ = if (σ.cas hd h (turnTo h (nx x))).1 then T (ix h) true (σ.cas hd h (turnTo h (nx x))).2 else some (kL, (σ.cas hd h (turnTo h (nx x))).2)
/-- A maker's value, handed on. -/
theorem Makes.gives {m n : Nat} {k : S.K} {σ : St S.R} {rs : List Value} {L : Lay} {w w1 w2 : World} {e : Ending} (h : Makes S (m + 1) k L w1 e w2) (hm : Made w w1) (hi : Inv S n σ rs L w) : Gives S m n (k, σ) rs L w e w2 := by
  obtain ⟨v, rfl, hm2, hr⟩ := h
  have m12 := Made.trans hm hm2
  exact ⟨v, L, rfl, Ext.of_made m12, hi.keeps_made m12, hi.later m12, hr.lower⟩
theorem Makes.gives' {m n : Nat} {k : S.K} {σ : St S.R} {rs : List Value} {L : Lay} {w w1 w2 : World} {e : Ending} (h : Makes S m k L w1 e w2) (hm : Made w w1) (hi : Inv S n σ rs L w) : Gives S m n (k, σ) rs L w e w2 := by
  obtain ⟨v, rfl, hm2, hr⟩ := h
  have m12 := Made.trans hm hm2
  exact ⟨v, L, rfl, Ext.of_made m12, hi.keeps_made m12, hi.later m12, hr⟩
theorem Makes.ret {m : Nat} {k : S.K} {L : Lay} {w w' : World} {e : Ending} (h : Makes S m k L w e w') : ∃ v, e = .returned v := by
  obtain ⟨v, rfl, _⟩ := h
  exact ⟨v, rfl⟩
theorem Gives.ret {m n : Nat} {x : S.K × St S.R} {rs : List Value} {L : Lay} {w w' : World} {e : Ending} (h : Gives S m n x rs L w e w') : ∃ v, e = .returned v := by
  obtain ⟨v, _, rfl, _⟩ := h
  exact ⟨v, rfl⟩
theorem Takes.func {m : Nat} {args : Array Value} {F : St S.R → Option (S.K × St S.R)} {v : Value} {w : World} {L : Lay} (h : Takes S m args F v w L) : ∃ f cap, v = .func (.func f) #[] cap := by
  obtain ⟨f, cap, h, _⟩ := h
  exact ⟨f, cap, h⟩
theorem Takes.lower {m : Nat} {args : Array Value} {F : St S.R → Option (S.K × St S.R)} {v : Value} {w : World} {L : Lay} (h : Takes S (m + 1) args F v w L) : Takes S m args F v w L := by
  obtain ⟨f, cap, h1, h2, h3⟩ := h
  exact ⟨f, cap, h1, h2, fun n w' L' σ rs y hx hi hy => (h3 n w' L' σ rs y hx hi hy).mono fun e w2 ⟨v, L2, g1, g2, g3, g4, g5⟩ => ⟨v, L2, g1, g2, g3, g4, g5.lower⟩⟩
/-- Load's value is code, whatever is handed to it. -/
theorem Load_shape {k : S.K} {i : Int} {f : FuncId} {cap : Array Value} {w : World} {L : Lay} (hk : S.nil k = false) : Calls Try.prog 61 #[.pointer (some ⟨S.a, 0, none⟩), .int .i64 i, .func (.func f) #[] cap] w (Makes S 0 k L w) := by
  have hmf : ∀ (fn : Fn) (first cap : Array Value) (w : World), (Instr.makeFunc fn first cap).run Try.prog w = .ok (.func fn first cap) w := fun _ _ _ _ => rfl
  have HM : Hid (Made w (((w.alloc (.cells #[.pointer (some ⟨S.a, 0, none⟩)] 50)).alloc (.cells #[.int .i64 i] 3)).alloc (.cells #[.func (.func f) #[] cap] 106))) :=
    (((Made.refl w).alloc (Nat.le_refl _) _).alloc (by simp only [World.size_alloc]; omega) _).alloc (by simp only [World.size_alloc]; omega) _
  have HK := Lib.hid hk
  clear hk
  go_enter Try.func61, Try.ntmps61
  go_wp2_with fail
  go_ret
  exact ⟨_, rfl, HM.out, Or.inr ⟨HK.out, _, _, rfl, enters_of Try.func83 (by kernel_rfl) rfl⟩⟩

variable {hd : Int} {fl : FuncId} {lk : Int → Int} {kL : S.K} {kN : Int → S.K} {kC : Int → Int → S.K} {T : Int → Bool → St S.R → Option (S.K × St S.R)}

set_option maxRecDepth 100000 in
set_option maxHeartbeats 1000000 in
theorem pop3_takes {m : Nat} {h x : Int} {vt : Value} {w : World} {L : Lay} {bs bt bf : Nat} (P : PopK S hd lk kL kN kC T)
    (hpop : ∀ w' L' n (σ : St S.R) rs, Ext S w L w' L' → Inv S n σ rs L' w' → Calls Try.prog 77 #[stk S hd fl, vt] w' (Makes S m kL L' w'))
    (ht : Takes S m #[.int .i64 (ix h), .bool true] (T (ix h) true) vt w L) (hs : SBox S w L bs hd fl) (h1 : Box S w L bt vt) (h2 : Box S w L bf (.int .i64 (ix h))) (ok : Bool) :
    Takes S m #[.bool ok] (fun σ => if ok then T (ix h) true σ else some (kL, σ)) (.func (.func 98) #[] #[.pointer (some ⟨bs, 0, none⟩), .pointer (some ⟨bt, 0, none⟩), .pointer (some ⟨bf, 0, none⟩)]) w L := by
  refine ⟨_, _, rfl, enters_of Try.func98 (by kernel_rfl) rfl, fun q w' L' σ rs y hx hv hy => ?_⟩
  obtain ⟨f, cap, rfl, hf, hc⟩ := ht
  have hs' := hs.later hx
  have c0 := hs'.c0
  have c1 := hs'.c1
  have c2 := hs'.c2
  have c3 := (h1.later hx).cell
  have c4 := (h2.later hx).cell
  have hen : ∀ (args : Array Value) (w : World), (callFunc f args).run Try.prog w = .ok (.enter f args) w := hf
  cases ok with
  | true =>
    have HC := Lib.hid (hc q w' L' σ rs y hx hv (by simpa using hy))
    clear hpop hc hs h1 h2 hx hv hs' P hy
    go_enter Try.func98, Try.ntmps98
    go_wp2_with fail
    refine HC.out.mono ?_
    rintro e w2 hg
    obtain ⟨v, rfl⟩ := hg.ret
    have HF := Lib.hid hg
    clear hg HC
    go_wp2_with fail
    go_ret
    exact HF.out
  | false =>
    obtain rfl : (kL, σ) = y := by simpa using hy
    have HC : Hid (Calls Try.prog 77 #[.agg #[.pointer (some ⟨S.a, 0, none⟩), .int .i64 hd, .func (.func fl) #[] #[]], .func (.func f) #[] cap] w' (Gives S m q (kL, σ) rs L' w')) := (hpop w' L' q σ rs hx hv).mono fun e w2 hm => hm.gives' (Made.refl _) hv
    clear hpop hc hs h1 h2 hx hv hs' P hy
    go_enter Try.func98, Try.ntmps98
    go_wp2_with fail
    refine HC.out.mono ?_
    rintro e w2 hg
    obtain ⟨v, rfl⟩ := hg.ret
    have HF := Lib.hid hg
    clear hg HC
    go_wp2_with fail
    go_ret
    exact HF.out
set_option maxRecDepth 100000 in
set_option maxHeartbeats 2000000 in
theorem pop2_takes {m : Nat} {h x : Int} {vt : Value} {w : World} {L : Lay} {bs bh bt bf : Nat} (P : PopK S hd lk kL kN kC T) (hU : U64 h)
    (hpop : ∀ w' L' n (σ : St S.R) rs, Ext S w L w' L' → Inv S n σ rs L' w' → Calls Try.prog 77 #[stk S hd fl, vt] w' (Makes S m kL L' w'))
    (ht : Takes S m #[.int .i64 (ix h), .bool true] (T (ix h) true) vt w L) (hs : SBox S w L bs hd fl) (h0 : Box S w L bh (.int .u64 h)) (h1 : Box S w L bt vt) (h2 : Box S w L bf (.int .i64 (ix h))) :
    Takes S m #[.int .u64 x] (fun σ => some (kC h x, σ)) (.func (.func 96) #[] #[.pointer (some ⟨bs, 0, none⟩), .pointer (some ⟨bh, 0, none⟩), .pointer (some ⟨bt, 0, none⟩), .pointer (some ⟨bf, 0, none⟩)]) w L := by
  refine ⟨_, _, rfl, enters_of Try.func96 (by kernel_rfl) rfl, fun q w' L' σ rs y hx hv hy => ?_⟩
  obtain rfl : (kC h x, σ) = y := by simpa using hy
  have hs' := hs.later hx
  have b0 := h0.later hx
  have b1 := h1.later hx
  have b2 := h2.later hx
  have c0 := hs'.c0
  have c1 := hs'.c1
  have ch := b0.cell
  have hcas : ∀ w1, Made w' w1 → Calls Try.prog 70 #[.pointer (some ⟨S.a, 0, none⟩), .int .i64 hd, .int .u64 h, .int .u64 (turnTo h (nx x)), .func (.func 98) #[] #[.pointer (some ⟨bs, 0, none⟩), .pointer (some ⟨bt, 0, none⟩), .pointer (some ⟨bf, 0, none⟩)]] w1 (Gives S m q (kC h x, σ) rs L' w') := fun w1 hm1 => by
    have e1 := Ext.of_made (S := S) (L := L') hm1
    refine (Cas_mk (S := S) (k := kC h x) (G := fun ok σ => if ok then T (ix h) true σ else some (kL, σ)) (turnTo_wide h (nx x)) (fun k hk => (hv.later hm1).mut_lt hk) (P.nC h x) (P.sC h x) (fun ok => pop3_takes (x := x) P (fun w2 L2 n σ rs hx2 hi2 => hpop w2 L2 n σ rs ((hx.trans e1).trans hx2) hi2) (ht.later (hx.trans e1)) (hs'.later e1) (b1.later e1) (b2.later e1) ok)).mono ?_
    intro e w2 hmk
    exact hmk.gives hm1 hv
  have HT : Hid (Calls Try.prog 97 #[.int .u64 h, .int .i64 (nx x)] w'.drew fun e w1 => e = .returned (.int .u64 (turnTo h (nx x))) ∧ w1.cell? ⟨bs, 0, none⟩ = some (.pointer (some ⟨S.a, 0, none⟩)) ∧ w1.cell? ⟨bs, 1, none⟩ = some (.int .i64 hd) ∧ w1.cell? ⟨bh, 0, none⟩ = some (.int .u64 h) ∧ Hid (Calls Try.prog 70 #[.pointer (some ⟨S.a, 0, none⟩), .int .i64 hd, .int .u64 h, .int .u64 (turnTo h (nx x)), .func (.func 98) #[] #[.pointer (some ⟨bs, 0, none⟩), .pointer (some ⟨bt, 0, none⟩), .pointer (some ⟨bf, 0, none⟩)]] w1 (Gives S m q (kC h x, σ) rs L' w'))) :=
    (turned_c h (nx x) hU (nx_i64 x) w'.drew).mono fun e w1 ⟨he, hm⟩ => by
      have hm1 : Made w' w1 := Made.trans (Made.drewN w' 1) hm
      have e1 := Ext.of_made (S := S) (L := L') hm1
      exact ⟨he, (hs'.later e1).c0, (hs'.later e1).c1, (b0.later e1).cell, hcas w1 hm1⟩
  have HG : Hid (∀ e w2, Gives S m q (kC h x, σ) rs L' w' e w2 → w2.cell? ⟨bs, 0, none⟩ = some (.pointer (some ⟨S.a, 0, none⟩)) ∧ w2.cell? ⟨bs, 1, none⟩ = some (.int .i64 hd) ∧ w2.cell? ⟨bh, 0, none⟩ = some (.int .u64 h) ∧ ∃ v, e = .returned v) := by
    rintro e w2 ⟨v, L2, rfl, hx2, _⟩
    exact ⟨(hs'.later hx2).c0, (hs'.later hx2).c1, (b0.later hx2).cell, v, rfl⟩
  have hmf : ∀ (fn : Fn) (first cap : Array Value) (w : World), (Instr.makeFunc fn first cap).run Try.prog w = .ok (.func fn first cap) w := fun _ _ _ _ => rfl
  have HNX : Hid (IntKind.i64.wrap (IntKind.i64.wrap x - 1) = nx x) := rfl
  clear hcas hpop ht hs h0 h1 h2 hx hv hs' b0 b1 b2 P hU hy
  go_enter Try.func96, Try.ntmps96
  go_wp2_with fail
  go_region_held3 (fun w1 => w1.cell? ⟨bs, 0, none⟩ = some (.pointer (some ⟨S.a, 0, none⟩)) ∧ w1.cell? ⟨bs, 1, none⟩ = some (.int .i64 hd) ∧ w1.cell? ⟨bh, 0, none⟩ = some (.int .u64 h)) (first | (refine ⟨?_, ?_, ?_⟩ <;> first | assumption | simpa using c0 | simpa using c1 | simpa using ch)) (first | (go_at_call 97; rw [HNX.out]; refine HT.out.mono ?_; rintro e w1 ⟨rfl, d0, d1, d2, HC2⟩) | (go_at_call 70; refine HC2.out.mono ?_; rintro e w2 hg; obtain ⟨e0, e1, e2, v, rfl⟩ := HG.out _ _ hg))
  all_goals
    go_wp2_with fail
    go_ret
    exact hg
set_option maxRecDepth 100000 in
set_option maxHeartbeats 2000000 in
theorem pop1_takes {m : Nat} {h : Int} {vt : Value} {w : World} {L : Lay} {bs bt : Nat} (P : PopK S hd lk kL kN kC T) (hU : U64 h) (hlk : LinkOK fl lk)
    (hpop : ∀ w' L' n (σ : St S.R) rs, Ext S w L w' L' → Inv S n σ rs L' w' → Calls Try.prog 77 #[stk S hd fl, vt] w' (Makes S m kL L' w'))
    (ht : ∀ i ok, (ok = true ∧ 0 ≤ i ∧ i < 4294967295) ∨ (ok = false ∧ i = -1) → Takes S m #[.int .i64 i, .bool ok] (T i ok) vt w L) (hs : SBox S w L bs hd fl) (h1 : Box S w L bt vt) :
    Takes S m #[.int .u64 h] (fun σ => if ix h < 0 then T (-1) false σ else some (kN h, σ)) (.func (.func 95) #[] #[.pointer (some ⟨bt, 0, none⟩), .pointer (some ⟨bs, 0, none⟩)]) w L := by
  refine ⟨_, _, rfl, enters_of Try.func95 (by kernel_rfl) rfl, fun q w' L' σ rs y hx hv hy => ?_⟩
  have hs' := hs.later hx
  have b1 := h1.later hx
  have c0 := hs'.c0
  have c2 := hs'.c2
  have cv := b1.cell
  have hlo := ix_lo h
  have hfd := field1
  have HHD := Lib.hid (HeadOf_i h hU)
  by_cases hneg : ix h < 0
  · obtain ⟨f, cap, rfl, hf, hc⟩ := ht (-1) false (Or.inr ⟨rfl, rfl⟩)
    have hen : ∀ (args : Array Value) (w : World), (callFunc f args).run Try.prog w = .ok (.enter f args) w := hf
    have HC : Hid (∀ w1, Made w' w1 → w1.cell? ⟨bt, 0, none⟩ = some (.func (.func f) #[] cap) ∧ Hid (Calls Try.prog f (#[.int .i64 (-1), .bool false] ++ cap) w1 (Gives S m q y rs L' w'))) := fun w1 hm1 => by
      have e1 := Ext.of_made (S := S) (L := L') hm1
      exact ⟨(b1.later e1).cell, (hc q w1 L' σ rs y (hx.trans e1) (hv.later hm1) (by simpa [hneg] using hy)).mono fun e w2 hg => hg.ext e1 (hv.keeps_made hm1)⟩
    clear hy hpop ht hc hs h1 hx hv hs' b1 P hU hlk c0 c2 cv
    go_enter Try.func95, Try.ntmps95
    go_wp2_with fail
    refine (HHD.out _).mono ?_
    rintro e w1 ⟨rfl, hm1⟩
    obtain ⟨cv2, HC2⟩ := HC.out (w1.alloc (.cells #[.int .i64 (ix h)] 3)) (Made.trans (Made.trans ((Made.refl w').alloc (Nat.le_refl _) _) hm1) ((Made.refl w1).alloc (Nat.le_refl _) _))
    clear HC hm1
    go_wp2_with fail
    generalize w1.alloc (.cells #[.int .i64 (ix h)] 3) = w2 at *
    refine HC2.out.mono ?_
    rintro e w3 hg
    obtain ⟨v, rfl⟩ := hg.ret
    have HF := Lib.hid hg
    clear hg HC2
    go_wp2_with fail
    go_ret
    exact HF.out
  · obtain ⟨f, cap, rfl⟩ := (ht (ix h) true (Or.inl ⟨rfl, by omega, by omega⟩)).func
    have hge : ¬ ix h < 0 := hneg
    obtain rfl : (kN h, σ) = y := by simpa [hneg] using hy
    have hi0 : 0 ≤ ix h := by omega
    have hl := hv
    have HC : Hid (∀ w1, Made (w'.alloc (.cells #[.int .u64 h] 22)) w1 → ∀ w3, Made (w1.alloc (.cells #[.int .i64 (ix h)] 3)) w3 → w3.cell? ⟨bs, 0, none⟩ = some (.pointer (some ⟨S.a, 0, none⟩)) ∧ w3.cell? ⟨bs, 2, none⟩ = some (.func (.func fl) #[] #[]) ∧ w3.cell? ⟨w1.heap.size, 0, none⟩ = some (.int .i64 (ix h)) ∧
        Hid (Calls Try.prog 61 #[.pointer (some ⟨S.a, 0, none⟩), .int .i64 (lk (ix h)), .func (.func 96) #[] #[.pointer (some ⟨bs, 0, none⟩), .pointer (some ⟨w'.heap.size, 0, none⟩), .pointer (some ⟨bt, 0, none⟩), .pointer (some ⟨w1.heap.size, 0, none⟩)]] w3 fun e w4 => Hid (Gives S m q (kN h, σ) rs L' w' e w4) ∧ w4.cell? ⟨bs, 0, none⟩ = some (.pointer (some ⟨S.a, 0, none⟩)) ∧ w4.cell? ⟨bs, 2, none⟩ = some (.func (.func fl) #[] #[]) ∧ w4.cell? ⟨w1.heap.size, 0, none⟩ = some (.int .i64 (ix h)) ∧ ∃ v, e = .returned v)) := fun w1 hm1 w3 hm3 => by
      have ma : Made w' (w'.alloc (.cells #[.int .u64 h] 22)) := (Made.refl w').alloc (Nat.le_refl _) _
      have mb : Made w1 (w1.alloc (.cells #[.int .i64 (ix h)] 3)) := (Made.refl w1).alloc (Nat.le_refl _) _
      have m1 := Made.trans ma hm1
      have m3 : Made w' w3 := Made.trans (Made.trans m1 mb) hm3
      have e3 := Ext.of_made (S := S) (L := L') m3
      have bh : Box S w3 L' w'.heap.size (.int .u64 h) := ((Box.new (S := S) (v := .int .u64 h) (t := 22) (fun k hk => hv.mut_lt hk) rfl).later (Ext.of_made hm1)).later (Ext.of_made (Made.trans mb hm3))
      have bf : Box S w3 L' w1.heap.size (.int .i64 (ix h)) := (Box.new (S := S) (v := .int .i64 (ix h)) (t := 3) (fun k hk => (hv.later m1).mut_lt hk) rfl).later (Ext.of_made hm3)
      refine ⟨(hs'.later e3).c0, (hs'.later e3).c2, bf.cell, ?_⟩
      refine (Load_mk (S := S) (k := kN h) (i := lk (ix h)) (G := fun x σ => some (kC h x, σ)) (fun k hk => (hv.later m3).mut_lt hk) (P.nN h) (P.sN h) (fun x _ _ => pop2_takes P hU (fun w4 L4 n σ rs hx4 hi4 => hpop w4 L4 n σ rs ((hx.trans e3).trans hx4) hi4) ((ht (ix h) true (Or.inl ⟨rfl, by omega, by omega⟩)).later (hx.trans e3)) (hs'.later e3) bh (b1.later e3) bf)).mono ?_
      intro e w4 hmk
      have hg := hmk.gives m3 hv
      obtain ⟨v, rfl, hm4, _⟩ := hmk
      have e4 := Ext.of_made (S := S) (L := L') hm4
      exact ⟨hg, (hs'.later (e3.trans e4)).c0, (hs'.later (e3.trans e4)).c2, (bf.later e4).cell, v, rfl⟩
    have HLK := Lib.hid (hlk.calls (ix h))
    have hen : ∀ (args : Array Value) (w : World), (callFunc fl args).run Try.prog w = .ok (.enter fl args) w := hlk.enters
    have hmf : ∀ (fn : Fn) (first cap : Array Value) (w : World), (Instr.makeFunc fn first cap).run Try.prog w = .ok (.func fn first cap) w := fun _ _ _ _ => rfl
    clear hy hpop ht hs h1 hx hv hs' b1 P hU hlk c0 c2 cv hl
    go_enter Try.func95, Try.ntmps95
    go_wp2_with fail
    refine (HHD.out _).mono ?_
    rintro e w1 ⟨rfl, hm1⟩
    have HC1 := Lib.hid (HC.out w1 hm1)
    clear HC hm1 HHD
    go_wp2_with fail
    obtain ⟨c0, c2, cf, _⟩ := HC1.out _ (Made.refl _)
    generalize w1.alloc (.cells #[.int .i64 (ix h)] 3) = w2 at *
    generalize w1.heap.size = g1 at *
    generalize w'.heap.size = g0 at *
    have hMd : Made w2 w2.drew := Made.drewN w2 1
    have hi1 : ix h ≤ 4294967295 := by omega
    go_region_held3 (fun w3 => w3.cell? ⟨bs, 0, none⟩ = some (.pointer (some ⟨S.a, 0, none⟩)) ∧ w3.cell? ⟨bs, 2, none⟩ = some (.func (.func fl) #[] #[]) ∧ w3.cell? ⟨g1, 0, none⟩ = some (.int .i64 (ix h))) (first | (refine ⟨?_, ?_, ?_⟩ <;> first | assumption | simpa using c0 | simpa using c2 | simpa using cf)) (first | (go_at_fn fl; refine (HLK.out _ hi0 hi1).mono ?_; rintro e w3 ⟨rfl, rfl⟩) | (go_at_call 61; refine (HC1.out _ hMd).2.2.2.out.mono ?_; rintro e w4 ⟨HG4, e0, e2, ef, v, rfl⟩))
    all_goals
      go_wp2_with fail
      go_ret
      exact HG4.out
set_option maxRecDepth 100000 in
set_option maxHeartbeats 2000000 in
theorem pop_walk {m : Nat} {f : FuncId} {cap : Array Value} {w : World} {L : Lay} (h : Calls Try.prog 61 #[.pointer (some ⟨S.a, 0, none⟩), .int .i64 hd, .func (.func 95) #[] #[.pointer (some ⟨w.heap.size + 1, 0, none⟩), .pointer (some ⟨w.heap.size, 0, none⟩)]] ((w.alloc (.cells #[.pointer (some ⟨S.a, 0, none⟩), .int .i64 hd, .func (.func fl) #[] #[]] 81)).alloc (.cells #[.func (.func f) #[] cap] 131)) (Makes S m kL L ((w.alloc (.cells #[.pointer (some ⟨S.a, 0, none⟩), .int .i64 hd, .func (.func fl) #[] #[]] 81)).alloc (.cells #[.func (.func f) #[] cap] 131)))) :
    Calls Try.prog 77 #[.agg #[.pointer (some ⟨S.a, 0, none⟩), .int .i64 hd, .func (.func fl) #[] #[]], .func (.func f) #[] cap] w (Makes S m kL L w) := by
  have HM : Hid (Made w ((w.alloc (.cells #[.pointer (some ⟨S.a, 0, none⟩), .int .i64 hd, .func (.func fl) #[] #[]] 81)).alloc (.cells #[.func (.func f) #[] cap] 131))) := ((Made.refl w).alloc (Nat.le_refl _) _).alloc (by simp only [World.size_alloc]; omega) _
  have HC := Lib.hid h
  have hmf : ∀ (fn : Fn) (first cap : Array Value) (w : World), (Instr.makeFunc fn first cap).run Try.prog w = .ok (.func fn first cap) w := fun _ _ _ _ => rfl
  clear h
  go_enter Try.func77, Try.ntmps77
  go_wp2_with fail
  refine HC.out.mono ?_
  rintro e w3 ⟨v, rfl, hm3, hr3⟩
  have HF : Hid (Makes S m kL L w (.returned v) w3) := ⟨v, rfl, Made.trans HM.out hm3, hr3⟩
  clear hm3 hr3 HC HM
  go_wp2_with fail
  go_ret
  exact HF.out
theorem Pop_c (P : PopK S hd lk kL kN kC T) (hlk : LinkOK fl lk) : ∀ (m : Nat) (vt : Value) (w : World) (L : Lay) (n : Nat) (σ : St S.R) (rs : List Value), Inv S n σ rs L w →
    (∀ i ok, (ok = true ∧ 0 ≤ i ∧ i < 4294967295) ∨ (ok = false ∧ i = -1) → Takes S m #[.int .i64 i, .bool ok] (T i ok) vt w L) →
    Calls Try.prog 77 #[stk S hd fl, vt] w (Makes S m kL L w) := by
  intro m
  induction m with
  | zero =>
    intro vt w L n σ rs hi ht
    obtain ⟨f, cap, rfl⟩ := (ht (-1) false (Or.inr ⟨rfl, rfl⟩)).func
    exact pop_walk (Load_shape P.nL)
  | succ m ih =>
    intro vt w L n σ rs hi ht
    obtain ⟨f, cap, rfl⟩ := (ht (-1) false (Or.inr ⟨rfl, rfl⟩)).func
    have m0 : Made w (w.alloc (.cells #[.pointer (some ⟨S.a, 0, none⟩), .int .i64 hd, .func (.func fl) #[] #[]] 81)) := (Made.refl w).alloc (Nat.le_refl _) _
    have m1 : Made (w.alloc (.cells #[.pointer (some ⟨S.a, 0, none⟩), .int .i64 hd, .func (.func fl) #[] #[]] 81)) ((w.alloc (.cells #[.pointer (some ⟨S.a, 0, none⟩), .int .i64 hd, .func (.func fl) #[] #[]] 81)).alloc (.cells #[.func (.func f) #[] cap] 131)) := (Made.refl _).alloc (Nat.le_refl _) _
    have m2 := Made.trans m0 m1
    have sb : SBox S ((w.alloc (.cells #[.pointer (some ⟨S.a, 0, none⟩), .int .i64 hd, .func (.func fl) #[] #[]] 81)).alloc (.cells #[.func (.func f) #[] cap] 131)) L w.heap.size hd fl := (SBox.new (fun k hk => hi.mut_lt hk) rfl).later (Ext.of_made m1)
    have bt : Box S ((w.alloc (.cells #[.pointer (some ⟨S.a, 0, none⟩), .int .i64 hd, .func (.func fl) #[] #[]] 81)).alloc (.cells #[.func (.func f) #[] cap] 131)) L (w.heap.size + 1) (.func (.func f) #[] cap) := Box.new (fun k hk => (hi.later m0).mut_lt hk) (by simp only [World.size_alloc])
    refine pop_walk (Load_mk (S := S) (k := kL) (i := hd) (G := fun h σ => if ix h < 0 then T (-1) false σ else some (kN h, σ)) (fun k hk => (hi.later m2).mut_lt hk) P.nL P.sL (fun h u0 u1 => ?_))
    exact pop1_takes P ⟨u0, u1⟩ hlk (fun w' L' n σ rs hx hi' => ih _ w' L' n σ rs hi' (fun i ok hio => (ht i ok hio).lower.later ((Ext.of_made m2).trans hx))) (fun i ok hio => (ht i ok hio).lower.later (Ext.of_made m2)) sb bt
end Go.Proofs.Ythllplocbciepaa.Kod
