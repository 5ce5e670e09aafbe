/- Package stack, walked: Pop, in plain words (over whatever system). -/
import Derived.Test.YtndpkonihcebeaaKod7
import Derived.Test.YtndpkonihcebeaaHead
namespace Go.Proofs.Ytndpkonihcebeaa.Kod
open Go.RowKit Go.Proofs.Ytndpkonihcebeaa Go.Proofs.Ytndpkonihcebeaa.Cell Go.Proofs.Ytndpkonihcebeaa.Wd
set_option linter.unusedVariables false
set_option linter.unusedSimpArgs false
variable {S : Sys}

/-- A stack in a box of its own: its cells, its head, its links. -/
structure SBox (S : Sys) (w : World) (L : Lay) (b : Nat) (hd : Int) (fl : FuncId) : Prop where
  lt : b < w.heap.size
  apart : ¬ Mut S L b
  c0 : w.cell? ⟨b, 0, none⟩ = some (.pointer (some ⟨S.a, 0, none⟩))
  c1 : w.cell? ⟨b, 1, none⟩ = some (.int .i64 hd)
  c2 : w.cell? ⟨b, 2, none⟩ = some (.func (.func fl) #[] #[])
/-- A stack, by value. -/
def stk (S : Sys) (hd : Int) (fl : FuncId) : Value := .agg #[.pointer (some ⟨S.a, 0, none⟩), .int .i64 hd, .func (.func fl) #[] #[]]
theorem cell_later {w w' : World} {L L' : Lay} {b o : Nat} {v : Value} (e : Ext S w L w' L') (lt : b < w.heap.size) (apart : ¬ Mut S L b) (h : w.cell? ⟨b, o, none⟩ = some v) : w'.cell? ⟨b, o, none⟩ = some v := by
  have h1 := e.block b lt apart
  unfold World.cell? at h ⊢
  simp only at h ⊢
  rw [h1.2]
  exact h
theorem SBox.later {w w' : World} {L L' : Lay} {b : Nat} {hd : Int} {fl : FuncId} (h : SBox S w L b hd fl) (e : Ext S w L w' L') : SBox S w' L' b hd fl :=
  ⟨Nat.lt_of_lt_of_le h.lt e.size, (e.block b h.lt h.apart).1, cell_later e h.lt h.apart h.c0, cell_later e h.lt h.apart h.c1, cell_later e h.lt h.apart h.c2⟩
theorem SBox.new {w : World} {L : Lay} {hd : Int} {fl : FuncId} {t : TypeId} {b : Nat} (hL : ∀ k, Mut S L k → k < w.heap.size) (hb : b = w.heap.size) : SBox S (w.alloc (.cells #[.pointer (some ⟨S.a, 0, none⟩), .int .i64 hd, .func (.func fl) #[] #[]] t)) L b hd fl := by
  subst hb
  refine ⟨by simp only [World.size_alloc]; omega, fun e => by have := hL _ e; omega, ?_, ?_, ?_⟩ <;> (rw [cell_of_row _ _ _ _ _ _ (heap_alloc_new _ _)]; rfl)
/-- The links: of a place its cell. -/
structure LinkOK (fl : FuncId) (lk : Int → Int) : Prop where
  enters : Enters Try.prog fl
  calls : ∀ (i : Int) (w : World), 0 ≤ i → i ≤ 4294967295 → Calls Try.prog fl #[.int .i64 i] w fun e w' => e = .returned (.int .i64 (lk i)) ∧ w = w'
/-- The place that a link's word tells, as the code reads it. -/
def nx (x : Int) : Int := IntKind.i64.wrap (IntKind.i64.wrap x - 1)
theorem nx_small {x : Int} (h0 : 0 ≤ x) (h1 : x ≤ 4294967296) : nx x = x - 1 := by unfold nx; simp only [IntKind.wrap_i64]; omega
theorem nx_i64 (x : Int) : I64 (nx x) := by unfold nx I64; simp only [IntKind.wrap_i64]; omega

/-- What Pop does, step by step. -/
structure PopK (S : Sys) (hd : Int) (lk : Int → Int) (kL : S.K) (kN : Int → S.K) (kC : Int → Int → S.K) (T : Int → Bool → St S.R → Option (S.K × St S.R)) : Prop where
  nL : S.nil kL = false
  nN : ∀ h, S.nil (kN h) = false
  nC : ∀ h x, S.nil (kC h x) = false
  sL : ∀ σ, S.next kL σ = if ix (σ.ld hd).1 < 0 then T (-1) false (σ.ld hd).2 else some (kN (σ.ld hd).1, (σ.ld hd).2)
  sN : ∀ h σ, S.next (kN h) σ = some (kC h (σ.ld (lk (ix h))).1, (σ.ld (lk (ix h))).2)
  sC : ∀ h x σ, S.next (kC h x) σ = if (σ.cas hd h (turnTo h (nx x))).1 then T (ix h) true (σ.cas hd h (turnTo h (nx x))).2 else some (kL, (σ.cas hd h (turnTo h (nx x))).2)
/-- A maker's value, handed on. -/
theorem Makes.gives {m n : Nat} {k : S.K} {σ : St S.R} {rs : List Value} {L : Lay} {w w1 w2 : World} {e : Ending} (h : Makes S (m + 1) k L w1 e w2) (hm : Made w w1) (hi : Inv S n σ rs L w) : Gives S m n (k, σ) rs L w e w2 := by
  obtain ⟨v, rfl, hm2, hr⟩ := h
  have m12 := Made.trans hm hm2
  exact ⟨v, L, rfl, Ext.of_made m12, hi.keeps_made m12, hi.later m12, hr.lower⟩
theorem Makes.gives' {m n : Nat} {k : S.K} {σ : St S.R} {rs : List Value} {L : Lay} {w w1 w2 : World} {e : Ending} (h : Makes S m k L w1 e w2) (hm : Made w w1) (hi : Inv S n σ rs L w) : Gives S m n (k, σ) rs L w e w2 := by
  obtain ⟨v, rfl, hm2, hr⟩ := h
  have m12 := Made.trans hm hm2
  exact ⟨v, L, rfl, Ext.of_made m12, hi.keeps_made m12, hi.later m12, hr⟩
theorem Makes.ret {m : Nat} {k : S.K} {L : Lay} {w w' : World} {e : Ending} (h : Makes S m k L w e w') : ∃ v, e = .returned v := by
  obtain ⟨v, rfl, _⟩ := h
  exact ⟨v, rfl⟩
theorem Gives.ret {m n : Nat} {x : S.K × St S.R} {rs : List Value} {L : Lay} {w w' : World} {e : Ending} (h : Gives S m n x rs L w e w') : ∃ v, e = .returned v := by
  obtain ⟨v, _, rfl, _⟩ := h
  exact ⟨v, rfl⟩
theorem Takes.func {m : Nat} {args : Array Value} {F : St S.R → Option (S.K × St S.R)} {v : Value} {w : World} {L : Lay} (h : Takes S m args F v w L) : ∃ f cap, v = .func (.func f) #[] cap := by
  obtain ⟨f, cap, h, _⟩ := h
  exact ⟨f, cap, h⟩
theorem Takes.lower {m : Nat} {args : Array Value} {F : St S.R → Option (S.K × St S.R)} {v : Value} {w : World} {L : Lay} (h : Takes S (m + 1) args F v w L) : Takes S m args F v w L := by
  obtain ⟨f, cap, h1, h2, h3⟩ := h
  exact ⟨f, cap, h1, h2, fun n w' L' σ rs y hx hi hy => (h3 n w' L' σ rs y hx hi hy).mono fun e w2 ⟨v, L2, g1, g2, g3, g4, g5⟩ => ⟨v, L2, g1, g2, g3, g4, g5.lower⟩⟩
/-- Load's value is code, whatever is handed to it. -/
theorem Load_shape {k : S.K} {i : Int} {f : FuncId} {cap : Array Value} {w : World} {L : Lay} (hk : S.nil k = false) : Calls Try.prog 42 #[.pointer (some ⟨S.a, 0, none⟩), .int .i64 i, .func (.func f) #[] cap] w (Makes S 0 k L w) := by
  have hmf : ∀ (fn : Fn) (first cap : Array Value) (w : World), (Instr.makeFunc fn first cap).run Try.prog w = .ok (.func fn first cap) w := fun _ _ _ _ => rfl
  have HM : Hid (Made w (((w.alloc (.cells #[.pointer (some ⟨S.a, 0, none⟩)] 25)).alloc (.cells #[.int .i64 i] 3)).alloc (.cells #[.func (.func f) #[] cap] 106))) :=
    (((Made.refl w).alloc (Nat.le_refl _) _).alloc (by simp only [World.size_alloc]; omega) _).alloc (by simp only [World.size_alloc]; omega) _
  have HK := Lib.hid hk
  clear hk
  go_enter Try.func42, Try.ntmps42
  go_wp2_with fail
  go_ret
  exact ⟨_, rfl, HM.out, Or.inr ⟨HK.out, _, _, rfl, enters_of Try.func77 (by kernel_rfl) rfl⟩⟩

variable {hd : Int} {fl : FuncId} {lk : Int → Int} {kL : S.K} {kN : Int → S.K} {kC : Int → Int → S.K} {T : Int → Bool → St S.R → Option (S.K × St S.R)}

end Go.Proofs.Ytndpkonihcebeaa.Kod
