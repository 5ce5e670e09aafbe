/- Package bits, walked: List (a range over a function). -/
import Derived.RangeFuncBox
import Derived.RangeFuncLeaves
import Derived.Shelf.Abstract
import Derived.WalkKit
import Derived.OwnWalkIn
import Derived.TacticsInMore
import Derived.LoopNIn
import Derived.LoopIn
import Derived.Maps.AppendAt
import Derived.Test.YtndpkonihcebeaaBits
namespace Go.Proofs.Ytndpkonihcebeaa.Bits
open Go.RowKit Go.Shelf Go.Proofs.Ytndpkonihcebeaa Go.Proofs.Ytndpkonihcebeaa.Num Go.Proofs.Ytndpkonihcebeaa.SetN
set_option linter.unusedVariables false
set_option linter.unusedSimpArgs false
attribute [local go_sem] Oper.semAt_some

/-- The slots of a set from one on, d of them looked at. -/
def upS (s : Nat) : Nat → Nat → List Nat
  | _, 0 => []
  | a, d + 1 => if s.testBit a = true then a :: upS s (a + 1) d else upS s (a + 1) d
def fromS (s a : Nat) : List Nat := upS s a (64 - a)
def slotsOf (s : Nat) : List Nat := fromS s 0
theorem upS_len (s : Nat) : ∀ d a, (upS s a d).length ≤ d
  | 0, _ => by simp [upS]
  | d + 1, a => by have := upS_len s d (a + 1); rw [upS]; split <;> simp <;> omega
theorem slots_len (s : Nat) : (slotsOf s).length ≤ 64 := upS_len s 64 0
theorem fromS_cases (s : Nat) : ∀ (d a : Nat), a + d = 64 → (∃ n, a ≤ n ∧ n < 64 ∧ s.testBit n = true ∧ (∀ i, a ≤ i → i < n → s.testBit i = false) ∧ fromS s a = n :: fromS s (n + 1)) ∨ ((∀ i, a ≤ i → i < 64 → s.testBit i = false) ∧ fromS s a = [])
  | 0, a, h => .inr ⟨fun i h1 h2 => by omega, by unfold fromS; rw [show 64 - a = 0 by omega]; rfl⟩
  | d + 1, a, h => by
    have e64 : 64 - a = (64 - (a + 1)) + 1 := by omega
    cases e : s.testBit a with
    | true => exact .inl ⟨a, Nat.le_refl _, by omega, e, fun i h1 h2 => by omega, by unfold fromS; rw [e64, upS, if_pos e]⟩
    | false =>
      have e2 : fromS s a = fromS s (a + 1) := by unfold fromS; rw [e64, upS, if_neg (by simp [e])]
      rcases fromS_cases s d (a + 1) (by omega) with ⟨n, h1, h2, h3, h4, h5⟩ | ⟨h', h''⟩
      · exact .inl ⟨n, by omega, h2, h3, fun i h5 h6 => by
          rcases Nat.eq_or_lt_of_le h5 with rfl | h7
          · exact e
          · exact h4 i h7 h6, e2.trans h5⟩
      · exact .inr ⟨fun i h5 h6 => by
          rcases Nat.eq_or_lt_of_le h5 with rfl | h7
          · exact e
          · exact h' i h7 h6, e2.trans h''⟩
/-- The next slot from one on. -/
def nextV (s a : Nat) : Int := match fromS s a with | [] => -1 | n :: _ => (n : Int)
theorem Next_c (s a : Nat) (hs : s < 2 ^ 64) (ha : a ≤ 64) (w : World) : Calls Try.prog 137 #[.int .u64 s, .int .i64 (a : Int)] w fun e w' => e = .returned (.int .i64 (nextV s a)) ∧ w = w' := by
  rcases fromS_cases s (64 - a) a (by omega) with ⟨n, h1, h2, h3, h4, h5⟩ | ⟨h', h''⟩
  · unfold nextV; rw [h5]
    exact Next_some s a n hs h3 (by omega) (fun i h6 h7 => h4 i (by omega) h7) w
  · unfold nextV; rw [h'']
    exact Next_none s a hs (fun i h6 h7 => h' i (by omega) h7) w

/-- What is still to be asked for. -/
def leftS (v : Value) : Nat := if 0 ≤ intOf v then (65 - intOf v).toNat else 0
theorem leftS_nat (n : Nat) : leftS (.int .i64 (n : Int)) = 65 - n := by
  unfold leftS
  have e : intOf (.int .i64 (n : Int)) = (n : Int) := rfl
  rw [e, if_pos (by omega)]; omega
theorem leftS_none : leftS (.int .i64 (-1)) = 0 := by
  unfold leftS
  rw [if_neg (by decide)]
theorem nextV_less (s x : Nat) (h2 : x < 64) : leftS (.int .i64 (nextV s (x + 1))) < leftS (.int .i64 (x : Int)) := by
  rw [leftS_nat]
  rcases fromS_cases s (64 - (x + 1)) (x + 1) (by omega) with ⟨n, h1, h2', _, _, h5⟩ | ⟨_, h''⟩
  · have e : nextV s (x + 1) = (n : Int) := by unfold nextV; rw [h5]
    rw [e, leftS_nat]; omega
  · have e : nextV s (x + 1) = -1 := by unfold nextV; rw [h'']
    rw [e, leftS_none]; omega
abbrev encS (x : Nat) : Array Value := #[.int .i64 (x : Int)]
abbrev KpS (Bn : Nat) (W W' : World) : Prop := ∀ v, Boxed W Bn 160 v → Boxed W' Bn 160 v

set_option maxRecDepth 100000 in
set_option maxHeartbeats 1000000 in
theorem all1_in (n : Nat) (hn : 1 ≤ n) (l Bn s : Nat) (hs : s < 2 ^ 64) (J Jx : List Nat → World → Prop)
    (hY : ∀ pre x W, J pre W → pre.length < (slotsOf s).length → YieldAt Fence.wide (n - 1) Try.prog l (encS x) W fun e W' =>
      (e = .returned (.bool true) ∧ J (pre ++ [x]) W' ∧ KpS Bn W W') ∨ (e = .returned (.bool false) ∧ Jx (pre ++ [x]) W'))
    (W : World) (hBn : Boxed W Bn 160 (.int .u64 (s : Int))) (h0 : J [] W) :
    CallsIn Fence.wide n Try.prog 155 #[.func (.yield l) #[] #[], .pointer (some ⟨Bn, 0, none⟩)] W fun e W' => (∃ v, e = .returned v) ∧
      ((∃ ys, ys = slotsOf s ∧ J ys W') ∨ (∃ pre, pre <+: slotsOf s ∧ Jx pre W')) := by
  have HN := fun a ha w => Next_c s a hs ha w
  have HN0 : Hid (∀ w : World, Calls Try.prog 137 #[.int .u64 s, .int .i64 0] w fun e w' => e = .returned (.int .i64 (nextV s 0)) ∧ w = w') := fun w => HN 0 (by omega) w
  have HNN := Lib.hid HN
  clear HN
  have hc := hBn.cell
  refine callsIn_of_wp Try.func155 rfl trivial ?_ rfl
  simp only [Try.ntmps155, List.size_toArray, List.length_cons, List.length_nil, Nat.reduceAdd, Nat.reduceSub, Array.replicate_succ, Array.replicate_zero, List.push_toArray, List.append_toArray, List.nil_append, List.cons_append]
  gi_wp2_with (refine ⟨trivial, ?_⟩; gi_at_call 137; refine (callsIn_wide.2 (HN0.out _)).mono ?_; rintro e w' ⟨rfl, rfl⟩)
  gi_loopw [3] (fun p wr => ∃ (pre : List Nat) (a : Nat), a ≤ 64 ∧ p = .int .i64 (nextV s a) ∧ slotsOf s = pre ++ fromS s a ∧ Boxed wr Bn 160 (.int .u64 (s : Int)) ∧ J pre wr)
    (fun p wr => leftS p)
  case atStart => exact ⟨[], 0, by omega, rfl, rfl, hBn, h0⟩
  case round =>
    obtain ⟨pre, a, ha, rfl, hx, hb, hJs⟩ := hrel
    have hcr := hb.cell
    rcases fromS_cases s (64 - a) a (by omega) with ⟨x, h1, h2, h3, h4, h5⟩ | ⟨h', h''⟩
    · have e1 : nextV s a = (x : Int) := by unfold nextV; rw [h5]
      rw [e1]
      obtain ⟨fn, tmps, assign, body, hy, hR⟩ := hY pre x wr hJs (by rw [hx, h5]; simp)
      have HNX : Hid (∀ w : World, Calls Try.prog 137 #[.int .u64 s, .int .i64 ((x : Int) + 1)] w fun e w' => e = .returned (.int .i64 (nextV s (x + 1))) ∧ w = w') := fun w => HNN.out (x + 1) (by omega) w
      have hlt : ¬ ((x : Int) < 0) := by omega
      gi_wp2
      refine hR.mono ?_
      rintro e W3 (⟨rfl, hJ3, hk3⟩ | ⟨rfl, hJx3⟩)
      · have hb3 := hk3 _ hb
        have hc3 := hb3.cell
        gi_wp2_with (refine ⟨trivial, ?_⟩; gi_at_call 137; refine (callsIn_wide.2 (HNX.out _)).mono ?_; rintro e w' ⟨rfl, rfl⟩)
        go_roundw
        case rel => exact ⟨pre ++ [x], x + 1, by omega, rfl, by rw [hx, h5]; simp, hb3, hJ3⟩
        case measure => exact nextV_less s x h2
      · gi_wp2
        go_end0
        exact ⟨⟨_, rfl⟩, .inr ⟨pre ++ [x], ⟨fromS s (x + 1), by rw [hx, h5]; simp⟩, hJx3⟩⟩
    · have e1 : nextV s a = -1 := by unfold nextV; rw [h'']
      rw [e1]
      gi_wp2
      refine ⟨fun _ _ => trivial, ?_⟩
      gi_wp2
      go_end0
      exact ⟨⟨_, rfl⟩, .inl ⟨pre, by rw [hx, h'']; simp, hJs⟩⟩

theorem all_stops (n : Nat) (hn : 1 ≤ n) (Bn s : Nat) (hs : s < 2 ^ 64) (w : World) (hb : Boxed w Bn 160 (.int .u64 (s : Int))) :
    SeqStopsK Fence.wide n Try.prog 155 #[.pointer (some ⟨Bn, 0, none⟩)] encS (KpS Bn) (fun ys => ys = slotsOf s) (fun pre => pre <+: slotsOf s) (slotsOf s).length w := fun l J Jx W hW _ _ hY h0 =>
  all1_in n hn l Bn s hs J Jx hY W ((hW.block _ hb.lt).trans hb) h0

set_option maxHeartbeats 1000000 in
theorem all_in (n : Nat) (s : Int) (w : World) :
    CallsIn Fence.wide n Try.prog 150 #[.int .u64 s] w fun e w' => e = .returned (.func (.func 155) #[] #[.pointer (some ⟨w.heap.size, 0, none⟩)]) ∧ w' = w.alloc (.cells #[.int .u64 s] 160) := by
  refine callsIn_of_wp Try.func150 rfl trivial ?_ rfl
  simp only [Try.ntmps150, List.size_toArray, List.length_cons, List.length_nil, Nat.reduceAdd, Nat.reduceSub, Array.replicate_succ, Array.replicate_zero, List.push_toArray, List.append_toArray, List.nil_append, List.cons_append]
  gi_wp2
  go_ret
  exact ⟨rfl, rfl⟩

theorem int_info : (Try.prog.info? 3).map (fun i => (i.zero, i.size, i.bytes)) = some (some (.int .i64 0), 1, 8) := by kernel_rfl
/-- The slots as values. -/
def vals (xs : List Nat) : List Value := xs.map fun (n : Nat) => Value.int .i64 (n : Int)
theorem vals_snoc (pre : List Nat) (x : Nat) : vals (pre ++ [x]) = vals pre ++ [.int .i64 (x : Int)] := by simp [vals]

theorem kp_append {W w1 : World} {n₀ B Bn : Nat} {v v' : Value} {k : Nat} {xs : List Value} {tmp : Obj} (hne : B ≠ Bn) (hrow : W.ownsRow n₀ 3 1 v k xs) (hgrow : (W.alloc tmp).grownBy w1 v.ownBlock) : KpS Bn W (w1.setCell ⟨B, 0, none⟩ v') := fun u h => by
  have h1 : Boxed w1 Bn 160 u := (h.alloc tmp).kept hgrow ((h.alloc tmp).not_row (by decide) (hrow.alloc tmp))
  show (w1.setCell ⟨B, 0, none⟩ v').heap[Bn]? = _
  rw [heap_setCell_other w1 ⟨B, 0, none⟩ Bn v' (fun e => hne e.symm)]
  exact h1

set_option maxRecDepth 100000 in
set_option maxHeartbeats 2000000 in
theorem List_in (s : Nat) (hs : s < 2 ^ 64) (w : World) :
    CallsIn Fence.wide 3 Try.prog 133 #[.int .u64 s] w fun e W' => ∃ v, e = .returned v ∧ W'.ownsRow w.heap.size 3 1 v (slotsOf s).length (vals (slotsOf s)) ∧ Below w.heap.size w W' := by
  have hlen := slots_len s
  obtain ⟨i0, hi, hz0, hz1, hz2⟩ := info_parts int_info
  refine callsIn_of_wp_marks Try.func133 rfl trivial ?_ rfl
  simp only [Try.ntmps133, List.size_toArray, List.length_cons, List.length_nil, Nat.reduceAdd, Nat.reduceSub, Array.replicate_succ, Array.replicate_zero, List.push_toArray, List.append_toArray, List.nil_append, List.cons_append]
  gi_wp2_with (refine ⟨trivial, ?_⟩; gi_at_call 150; refine (all_in _ _ _).mono ?_; rintro e w' ⟨rfl, rfl⟩)
  have bO := Boxed.new w 23 (.slice none 0 0)
  have bN := Boxed.new (w.alloc (.cells #[.slice none 0 0] 23)) 160 (.int .u64 (s : Int))
  rw [World.size_alloc] at bN
  have hB0 : Below w.heap.size w ((w.alloc (.cells #[.slice none 0 0] 23)).alloc (.cells #[.int .u64 (s : Int)] 160)) := ((Below.refl _ w).alloc (Nat.le_refl _) _).alloc (by simp) _
  refine wpIn_rangeFunc_ownG rfl (by omega) (gf := 155) (lb := #[.pointer (some ⟨w.heap.size + 1, 0, none⟩)]) rfl trivial (enters_of Try.func155 (by kernel_rfl) rfl)
    (all_stops 2 (by omega) (w.heap.size + 1) s hs _ bN) (fun h k v hv => k v (h v hv)) (fun W l o o' hl ho hco _ v hv => hv.kept (grownBy_putObj' W l o') (fun e => by cases e; rw [show W.heap[_]? = _ from hv] at ho; cases ho; cases hco)) (Below.refl _ _) (fun _ => rfl)
    (fun pre W => (∃ v, Boxed W w.heap.size 23 v ∧ W.ownsRow w.heap.size 3 1 v pre.length (vals pre) ∧ True) ∧ Below w.heap.size w W)
    (fun _ _ _ => False)
    (OwnFrom.and (Own.from (holdsRow_own w.heap.size w.heap.size 23 3 1 (fun pre => pre.length) (fun pre => vals pre) (fun pre v => True)) _) (ownFrom_below (Nat.le_refl _) (by simp; omega)))
    (fun _ _ _ _ _ hs _ _ => hs)
    ⟨⟨_, bO.alloc _, World.ownsRow_nil _ _ _ _, trivial⟩, hB0⟩
    (fun x => { tmps := #[.int .u64 s, undef, .slice none 0 0, .pointer (some ⟨w.heap.size, 0, none⟩), .int .i64 (x : Int), .int .u64 s, .func (.func 155) #[] #[.pointer (some ⟨w.heap.size + 1, 0, none⟩)], .int .i64 (x : Int), undef, undef, undef, undef, undef], defers := [] }) ?assign ?body ?done ?stop
  case assign =>
    intro l x W K hK
    gi_wp2
    exact hK
  case body =>
    rintro l pre x W ⟨⟨v, hv, hrow, _⟩, hB⟩ hlt
    have hc := hv.cell
    gi_wp2_with (gi_at_builtin; refine wpListIn_append_own _ rfl _ _ 23 rfl w.heap.size 3 i0 (.int .i64 0) 1 8 Try.underlying23 hi hz0 hz1 hz2 rfl (by decide) _ _ _ rfl (hrow.alloc _) ⟨W.heap.size, 0, none⟩ 1 1 [.int .i64 (x : Int)] rfl rfl (cell_one_new _ _ _) (by simp [Value.oneCell']) (by simp [maxLen]; omega) (by omega) (by have := hB.size; simp; omega) ?_; intro v' w1 hown' hgrow _; obtain ⟨g', cap', rfl⟩ := ownsRow_succ hown'; obtain ⟨hv1, hv2, hr2, hk2, hb2⟩ := hv.appended (by decide) hrow hB.size (Nat.le_refl _) hown' hgrow; have hc1 := hv1.cell; have hf1 := hv1.frozen)
    exact ⟨hk2.from _, kp_append (by omega) hrow hgrow, ⟨_, hv2, by rw [vals_snoc]; simpa using hr2, trivial⟩, hB.trans hb2⟩
  case done =>
    rintro D ys W hD rfl ⟨⟨v, hv, hrow, _⟩, hB⟩ hK
    have hc := hv.cell
    gi_wp2
    refine ⟨by simp, .inl ⟨_, _, rfl, run_takeDeferred hK, ?_⟩⟩
    exact ⟨_, results_tmp rfl _ _ _, v, rfl, ownsRow_putObj hrow _ hK rfl, hB.trans (belowK_b (w := w) (Nat.le_refl _) W D _ _ (by simp at hD; omega) hK rfl rfl)⟩
  case stop =>
    rintro D c pre W _ _ h _
    exact h.elim
theorem List_c (s : Nat) (hs : s < 2 ^ 64) (w : World) :
    Calls Try.prog 133 #[.int .u64 s] w fun e W' => ∃ v, e = .returned v ∧ W'.ownsRow w.heap.size 3 1 v (slotsOf s).length (vals (slotsOf s)) ∧ Made w W' := callsIn_wide.1 (List_in s hs w)
end Go.Proofs.Ytndpkonihcebeaa.Bits
