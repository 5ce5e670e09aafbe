/- Layer 9's laws: puts, walked. -/
import Derived.Test.YtndpkonihcebeaaCode9c
namespace Go.Proofs.Ytndpkonihcebeaa.Kod.Nine
open Go.RowKit Go.Proofs.Ytndpkonihcebeaa Go.Proofs.Ytndpkonihcebeaa.Cell Go.Proofs.Ytndpkonihcebeaa.Wd
set_option linter.unusedVariables false
set_option linter.unusedSimpArgs false
variable {a b : Nat} {nn : Int} {eb : Option Nat} {fd : FuncId} {cd : Array Value}

theorem putK9 (d : Bool) (t : Int) (l : List Int) : PutK (S9 a b nn eb) 0 1 lk2 t (K9.putL d t l) (fun h => K9.putD d t l h) (fun h => K9.putS d t l h) (fun h => K9.putC d t l h) (fun h => K9.putN d t l h) (fun h x => K9.putM d t l h x) (fun i => K9.freL d t l i) (fun i h => K9.freS d t l i h) (fun i h => K9.freC d t l i h) (fun σ => putted d t l σ) := by
  refine ⟨rfl, fun _ => rfl, fun _ => rfl, fun _ => rfl, fun _ _ => rfl, fun σ => ?_, fun _ _ => rfl, fun _ _ => rfl, fun _ _ => rfl, fun h x σ => ?_, fun i => ⟨rfl, fun _ => rfl, fun _ => rfl, fun _ => rfl, fun _ _ => rfl, fun _ _ => rfl⟩⟩
  · show (if ix (σ.ld 0).1 < 0 then some (K9.putS d t l (σ.ld 0).1, (σ.ld 0).2) else some (K9.putD d t l (σ.ld 0).1, (σ.ld 0).2)) = some (if ix (σ.ld 0).1 < 0 then K9.putS d t l (σ.ld 0).1 else K9.putD d t l (σ.ld 0).1, (σ.ld 0).2)
    by_cases hc : ix (σ.ld 0).1 < 0
    · rw [if_pos hc, if_pos hc]
    · rw [if_neg hc, if_neg hc]
  · show (if (σ.cas 0 h (turnTo h (nx x))).1 then some (K9.freL d t l (ix h), (σ.cas 0 h (turnTo h (nx x))).2) else some (K9.putL d t l, (σ.cas 0 h (turnTo h (nx x))).2)) = some (if (σ.cas 0 h (turnTo h (nx x))).1 then K9.freL d t l (ix h) else K9.putL d t l, (σ.cas 0 h (turnTo h (nx x))).2)
    by_cases hc : (σ.cas 0 h (turnTo h (nx x))).1 = true
    · rw [if_pos hc, if_pos hc]
    · rw [if_neg hc, if_neg hc]
set_option maxRecDepth 100000 in
set_option maxHeartbeats 1000000 in
theorem dead1_takes {S : Sys} {m : Nat} {x : Int} {F : Bool → S.K} {vt : Value} {w : World} {L : Lay} {bt : Nat} (ht : ∀ d, Takes S m #[.bool d] (fun σ => some (F d, σ)) vt w L) (h1 : Box S w L bt vt) :
    Takes S m #[.int .u64 x] (fun σ => some (F (decide (x = 1)), σ)) (.func (.func 43) #[] #[.pointer (some ⟨bt, 0, none⟩)]) w L := by
  refine ⟨_, _, rfl, enters_of Try.func43 (by kernel_rfl) rfl, fun q w' L' σ rs y hx hv hy => ?_⟩
  have c1 := (h1.later hx).cell
  by_cases h : x = 1
  · obtain ⟨f, cap, rfl, hf, hc⟩ := ht true
    have hen : ∀ (args : Array Value) (w : World), (callFunc f args).run Try.prog w = .ok (.enter f args) w := hf
    subst h
    have HC := Lib.hid (hc q w' L' σ rs y hx hv (by simpa using hy))
    clear hc h1 hx hv hy ht
    go_enter Try.func43, Try.ntmps43
    go_wp2_with fail
    refine HC.out.mono ?_
    rintro e w2 hg
    obtain ⟨v, rfl⟩ := hg.ret
    have HF := Lib.hid hg
    clear hg HC
    go_wp2_with fail
    go_ret
    exact HF.out
  · obtain ⟨f, cap, rfl, hf, hc⟩ := ht false
    have hen : ∀ (args : Array Value) (w : World), (callFunc f args).run Try.prog w = .ok (.enter f args) w := hf
    have HC := Lib.hid (hc q w' L' σ rs y hx hv (by simpa [h] using hy))
    have hne : (x == 1) = false := by simpa using h
    have hne2 : decide (x = 1) = false := by simpa using h
    clear hc h1 hx hv hy ht
    go_enter Try.func43, Try.ntmps43
    go_wp2_with fail
    first | rw [hne2] | rw [hne] | skip
    refine HC.out.mono ?_
    rintro e w2 hg
    obtain ⟨v, rfl⟩ := hg.ret
    have HF := Lib.hid hg
    clear hg HC
    go_wp2_with fail
    go_ret
    exact HF.out
set_option maxRecDepth 100000 in
set_option maxHeartbeats 1000000 in
theorem dead_walk {S : Sys} {m : Nat} {k : S.K} {i : Int} {w : World} {L : Lay} {f : FuncId} {cap : Array Value} {ba bn : Nat} (h0 : 0 ≤ i) (h1 : i ≤ 4294967295) (n0 : 0 ≤ nn) (n1 : nn ≤ 1000000) (hba : Box S w L ba (.pointer (some ⟨S.a, 0, none⟩))) (hbn : Box S w L bn (.int .i64 nn)) (hL : ∀ k, Mut S L k → k < w.heap.size)
    (hc : Calls Try.prog 42 #[.pointer (some ⟨S.a, 0, none⟩), .int .i64 (2 + nn + i), .func (.func 43) #[] #[.pointer (some ⟨w.heap.size, 0, none⟩)]] (w.alloc (.cells #[.func (.func f) #[] cap] 104)) (Makes S m k L (w.alloc (.cells #[.func (.func f) #[] cap] 104)))) :
    Calls Try.prog 41 #[.int .i64 i, .func (.func f) #[] cap, .pointer (some ⟨ba, 0, none⟩), .pointer (some ⟨bn, 0, none⟩)] w (Makes S m k L w) := by
  obtain ⟨z0, b0, m0, e0⟩ := Box.step (S := S) (L := L) (v := .func (.func f) #[] cap) (ty := 104) hL
  have ca := (hba.later e0).cell
  have cn := (hbn.later e0).cell
  have HC := Lib.hid (hc.mono fun e w2 hm => hm.from m0)
  have hmf : ∀ (fn : Fn) (first cap : Array Value) (w : World), (Instr.makeFunc fn first cap).run Try.prog w = .ok (.func fn first cap) w := fun _ _ _ _ => rfl
  have hw : wrap64 (wrap64 (2 + nn) + i) = 2 + nn + i := by
    rw [show wrap64 (wrap64 (2 + nn) + i) = IntKind.i64.wrap (IntKind.i64.wrap (2 + nn) + i) from by simp only [wrap64, IntKind.wrap_i64]]
    simp only [IntKind.wrap_i64]
    omega
  have HW := Lib.hid hw
  have hw2 : wrap64 (2 + nn + i) = 2 + nn + i := by
    rw [show wrap64 (2 + nn + i) = IntKind.i64.wrap (2 + nn + i) from by simp only [wrap64, IntKind.wrap_i64]]
    simp only [IntKind.wrap_i64]
    omega
  have HW2 := Lib.hid hw2
  clear hc hba hbn hL z0 b0 m0 e0 hw hw2
  go_enter Try.func41, Try.ntmps41
  go_wp2_with fail
  first | rw [HW.out] | rw [HW2.out] | skip
  refine HC.out.mono ?_
  rintro e w2 hg
  obtain ⟨v, rfl⟩ := hg.ret
  have HF := Lib.hid hg
  clear hg HC
  go_wp2_with fail
  go_ret
  exact HF.out
theorem Makes.lowerC {S : Sys} {f : FuncId} {args : Array Value} {m : Nat} {k : S.K} {L : Lay} {w : World} (h : Calls Try.prog f args w (Makes S (m + 1) k L w)) : Calls Try.prog f args w (Makes S m k L w) := h.mono fun e w2 hm => Kod.Makes.lower hm
theorem dead9 {S : Sys} {m : Nat} {w : World} {L : Lay} {ba bn : Nat} {kD : Int → S.K} {F : Int → Bool → S.K} (n0 : 0 ≤ nn) (n1 : nn ≤ 1000000) (hk : ∀ h, S.nil (kD h) = false) (hn : ∀ h σ, S.next (kD h) σ = some (F h (decide ((σ.ld (2 + nn + ix h)).1 = 1)), (σ.ld (2 + nn + ix h)).2))
    (hba : Box S w L ba (.pointer (some ⟨S.a, 0, none⟩))) (hbn : Box S w L bn (.int .i64 nn)) :
    DeadOK S 41 #[.pointer (some ⟨ba, 0, none⟩), .pointer (some ⟨bn, 0, none⟩)] kD F w L := by
  refine ⟨enters_of Try.func41 (by kernel_rfl) rfl, fun m h w' L' q σ rs vt hx hv hU hi0 ht => ?_⟩
  obtain ⟨f, cap, rfl⟩ := (ht true).func
  have hlo := ix_lo h
  obtain ⟨z0, b0, m0, e0⟩ := Box.step (S := S) (L := L') (v := .func (.func f) #[] cap) (ty := 104) (fun k hk => hv.mut_lt hk)
  exact dead_walk hi0 (by omega) n0 n1 (hba.later hx) (hbn.later hx) (fun k hk => hv.mut_lt hk) (Makes.lowerC (Load_mk (S := S) (k := kD h) (i := 2 + nn + ix h) (G := fun x σ => some (F h (decide (x = 1)), σ)) z0 (hk h) (hn h) (fun x _ _ => dead1_takes (fun d => (ht d).later e0) b0)))
end Go.Proofs.Ytndpkonihcebeaa.Kod.Nine
