/- Layer 9's laws: drains, walked: the whole. -/
import Derived.Test.YtndpkonihcebeaaCode9b
namespace Go.Proofs.Ytndpkonihcebeaa.Kod.Nine
open Go.RowKit Go.Proofs.Ytndpkonihcebeaa Go.Proofs.Ytndpkonihcebeaa.Cell Go.Proofs.Ytndpkonihcebeaa.Wd
set_option linter.unusedVariables false
set_option linter.unusedSimpArgs false
variable {a b : Nat} {nn : Int} {eb : Option Nat} {fd : FuncId} {cd : Array Value}

theorem eachK9 (o n : Nat) : EachK (S9 a b nn eb) lk2 (fun f => K9.eaL o n f) (fun f x σ => took o n f x σ) := ⟨fun _ => rfl, fun _ _ => rfl⟩
theorem drainK9 (o n : Nat) : DrainK (S9 a b nn eb) 0 (K9.drL o n) (fun h => K9.drC o n h) (fun f σ => each9 o n f σ) := by
  exact ⟨rfl, fun _ => rfl, fun σ => rfl, fun h σ => rfl⟩
set_option maxRecDepth 100000 in
set_option maxHeartbeats 2000000 in
theorem first_takes {m o n g bo bs bn : Nat} {i : Int} {w : World} {L : Lay} (IH : Drains9 a b nn eb fd cd n) (hn : n < 1000000) (hi0 : -1 ≤ i) (hi1 : i < 4294967295) (hg : L.gh[o]? = some g) (h1 : Box (S9 a b nn eb) w L bo (.pointer (some ⟨g, 0, none⟩))) (hs : BB9 a b nn eb fd cd w L bs) (h3 : Box (S9 a b nn eb) w L bn (.int .i64 ((n : Int) + 1))) :
    Takes (S9 a b nn eb) m #[.int .i64 i] (fun σ => each9 o n i σ) (.func (.func 45) #[] #[.pointer (some ⟨bs, 0, none⟩), .pointer (some ⟨bo, 0, none⟩), .pointer (some ⟨bn, 0, none⟩)]) w L := by
  refine ⟨_, _, rfl, enters_of Try.func45 (by kernel_rfl) rfl, fun q w' L' σ rs y hx hv hy => ?_⟩
  obtain ⟨d0, d1, d2, d3, d4, d5, d6⟩ := (hs.later hx).cells
  have hg' := gh_at hx.gh.gh hg
  have HC : Hid (Calls Try.prog 46 #[bx9 a b nn eb fd cd, .int .i64 i, .func (.func 47) #[] #[.pointer (some ⟨bo, 0, none⟩)], .func (.func 49) #[] #[.pointer (some ⟨bo, 0, none⟩), .pointer (some ⟨bs, 0, none⟩), .pointer (some ⟨bn, 0, none⟩)]] w' (Gives (S9 a b nn eb) m q y rs L' w')) :=
    Each_c (eachK9 o n) link9 m i _ _ w' L' q σ rs y hv (by unfold I64; omega) (do_ok hg' (h1.later hx)) (then_takes IH hn hg' (h1.later hx) (hs.later hx) (h3.later hx)) hy
  have hmf : ∀ (fn : Fn) (first cap : Array Value) (w : World), (Instr.makeFunc fn first cap).run Try.prog w = .ok (.func fn first cap) w := fun _ _ _ _ => rfl
  clear IH hg hg' h1 hs h3 hx hv hy hi0 hi1 hn
  unfold bx9 bxv at HC
  unfold bxr at HC
  go_enter Try.func45, Try.ntmps45
  go_wp2_with fail
  refine HC.out.mono ?_
  rintro e w2 hg
  obtain ⟨v, rfl⟩ := hg.ret
  have HF := Lib.hid hg
  clear hg HC
  go_wp2_with fail
  go_ret
  exact HF.out
/-- Where drains goes on. -/
def drW (a b : Nat) (nn : Int) (eb : Option Nat) (fd : FuncId) (cd : Array Value) (w : World) (n : Int) (g : Nat) : World := ((w.alloc (.cells (bxr (S9 a b nn eb) 0 1 40 fd cd) 31)).alloc (.cells #[.int .i64 n] 3)).alloc (.cells #[.pointer (some ⟨g, 0, none⟩)] 34)
set_option maxRecDepth 100000 in
set_option maxHeartbeats 2000000 in
theorem drains_walk {m q o g n : Nat} {w : World} {L : Lay} {σ : St R9} {rs : List Value} (hn : n < 1000000)
    (h : Calls Try.prog 44 #[bx9 a b nn eb fd cd, .func (.func 45) #[] #[.pointer (some ⟨w.heap.size, 0, none⟩), .pointer (some ⟨w.heap.size + 1 + 1, 0, none⟩), .pointer (some ⟨w.heap.size + 1, 0, none⟩)]] (drW a b nn eb fd cd w ((n : Int) + 1) g) (Gives (S9 a b nn eb) m q (.drL o n, σ) rs L w)) :
    Calls Try.prog 15 #[bx9 a b nn eb fd cd, .int .i64 ((n : Int) + 1), .pointer (some ⟨g, 0, none⟩)] w (Gives (S9 a b nn eb) m q (.drL o n, σ) rs L w) := by
  have HC := Lib.hid h
  have hmf : ∀ (fn : Fn) (first cap : Array Value) (w : World), (Instr.makeFunc fn first cap).run Try.prog w = .ok (.func fn first cap) w := fun _ _ _ _ => rfl
  have hge : ¬ (n : Int) + 1 ≤ 0 := by omega
  clear h
  unfold drW at *
  unfold bx9 bxv at *
  unfold bxr at *
  go_enter Try.func15, Try.ntmps15
  go_wp2_with fail
  refine HC.out.mono ?_
  rintro e w2 hg
  obtain ⟨v, rfl⟩ := hg.ret
  have HF := Lib.hid hg
  clear hg HC
  go_wp2_with fail
  go_ret
  exact HF.out
set_option maxRecDepth 100000 in
set_option maxHeartbeats 2000000 in
theorem drains_nil {m q g : Nat} {w : World} {L : Lay} {σ : St R9} {rs : List Value} (hv : Inv (S9 a b nn eb) q σ rs L w) :
    Calls Try.prog 15 #[bx9 a b nn eb fd cd, .int .i64 0, .pointer (some ⟨g, 0, none⟩)] w (Gives (S9 a b nn eb) m q (.done, σ) rs L w) := by
  have hm : Made w (drW a b nn eb fd cd w 0 g) := (((Made.refl w).alloc (Nat.le_refl _) _).alloc (by simp only [World.size_alloc]; omega) _).alloc (by simp only [World.size_alloc]; omega) _
  have HF : Hid (Gives (S9 a b nn eb) m q (.done, σ) rs L w (.returned .nilFunc) (drW a b nn eb fd cd w 0 g)) := ⟨_, L, rfl, Ext.of_made hm, hv.keeps_made hm, hv.later hm, by cases m <;> exact Or.inl ⟨rfl, rfl⟩⟩
  clear hm hv
  unfold drW at *
  unfold bx9 bxv at *
  unfold bxr at *
  go_enter Try.func15, Try.ntmps15
  go_wp2_with fail
  go_ret
  exact HF.out
theorem drains_c : ∀ n : Nat, n < 1000000 → Drains9 a b nn eb fd cd n := by
  intro n
  induction n with
  | zero =>
    intro hn m q o g w L σ rs y hv hg hy
    obtain rfl : (K9.done, σ) = y := by simpa [drains9] using hy
    exact drains_nil hv
  | succ n ih =>
    intro hn m q o g w L σ rs y hv hg hy
    obtain rfl : (K9.drL o n, σ) = y := by simpa [drains9] using hy
    obtain ⟨z0, b0, m0, e0⟩ := BB.step (S := S9 a b nn eb) (L := L) (hd := 0) (hq := 1) (fl := 40) (fd := fd) (cd := cd) (fun k hk => hv.mut_lt hk)
    obtain ⟨z1, b1, m1, e1⟩ := Box.step (v := .int .i64 ((n : Int) + 1)) (ty := 3) z0
    obtain ⟨z2, b2, m2, e2⟩ := Box.step (v := .pointer (some ⟨g, 0, none⟩)) (ty := 34) z1
    simp only [World.size_alloc] at b1 b2
    have mm := Made.trans m0 (Made.trans m1 m2)
    have hh := drains_walk (o := o) (g := g) (L := L) (σ := σ) (rs := rs) (q := q) (m := m) (by omega) ((Drain_c (S := S9 a b nn eb) (hd := 0) (hq := 1) (fl := 40) (fd := fd) (cd := cd) (drainK9 o n) m _ (drW a b nn eb fd cd w ((n : Int) + 1) g) L q σ rs (hv.later mm) (fun i h0 h1 => first_takes (ih (by omega)) (by omega) h0 h1 hg b2 ((b0.later e1).later e2) (b1.later e2))).mono fun e w2 hm => hm.gives' mm hv)
    rw [show ((n + 1 : Nat) : Int) = (n : Int) + 1 by omega]
    exact hh
end Go.Proofs.Ytndpkonihcebeaa.Kod.Nine
