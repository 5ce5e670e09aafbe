/- Package bits, walked: Each, with the function that BitsTell hands to it. -/
import Derived.RangeFuncNested
import Derived.Test.YthllplocbciepaaRef6d
namespace Go.Proofs.Ythllplocbciepaa.Each
open Go.RowKit Go.Shelf Go.Proofs.Ythllplocbciepaa Go.Proofs.Ythllplocbciepaa.Num Go.Proofs.Ythllplocbciepaa.SetN Go.Proofs.Ythllplocbciepaa.Bits Go.Proofs.Ythllplocbciepaa.Law6 Go.Proofs.Ythllplocbciepaa.Ref6
set_option linter.unusedVariables false
set_option linter.unusedSimpArgs false
attribute [local go_sem] Oper.semAt_some

set_option maxRecDepth 100000 in
set_option maxHeartbeats 1000000 in
theorem app1_c (W : World) (Bx n₀ : Nat) (v : Value) (k : Nat) (xs : List Value) (x : Int) (hv : Boxed W Bx 32 v) (hrow : W.ownsRow n₀ 3 1 v k xs) (hn₀ : n₀ ≤ W.heap.size) (hB : n₀ ≤ Bx) (hk : k ≤ 1000) :
    Calls Try.prog 29 #[.int .i64 x, .pointer (some ⟨Bx, 0, none⟩)] W fun e W' => (∃ r, e = .returned r) ∧ (∃ v', Boxed W' Bx 32 v' ∧ W'.ownsRow n₀ 3 1 v' (k + 1) (xs ++ [.int .i64 x])) ∧ KeepsOthers W W' ∧ Below n₀ W W' ∧
      (∀ (B : Nat) (t : TypeId) (u : Value), t ≠ 3 → B ≠ Bx → Boxed W B t u → Boxed W' B t u) := by
  obtain ⟨i0, hi, hz0, hz1, hz2⟩ := info_parts Bits.int_info
  have hc := hv.cell
  go_enter Try.func29, Try.ntmps29
  go_wp2_with (at_builtin; (refine wpList_append_own _ rfl (.tmp 3) (.tmp 5) 32 rfl n₀ 3 i0 (.int .i64 0) 1 8 Try.underlying32 hi hz0 hz1 hz2 rfl (by decide) _ k xs (by simp [Act.eval, Act.put]) (World.ownsRow.alloc hrow _) ⟨W.heap.size, 0, none⟩ 1 1 [.int .i64 x] (by simp [Act.eval, Act.put]) rfl (lit_news _ _) (by simp [Value.oneCell']) (by unfold maxLen; omega) (by omega) (by simp; omega) ?_; intro v' w1 hown' hgrow _; obtain ⟨g', cap', rfl⟩ := ownsRow_succ hown'; obtain ⟨hv1, hv2, hr2, hk2, hb2⟩ := hv.appended (by decide) hrow hn₀ hB hown' hgrow; have hc1 := hv1.cell; have hf1 := hv1.frozen))
  go_end0
  refine ⟨⟨_, rfl⟩, ⟨_, hv2, hr2⟩, hk2, hb2, fun B t u ht hne h => ?_⟩
  exact ((h.alloc (.cells #[.int .i64 x] 3)).kept hgrow ((h.alloc (.cells #[.int .i64 x] 3)).not_row ht (World.ownsRow.alloc hrow (.cells #[.int .i64 x] 3)))).other hne _

set_option maxRecDepth 100000 in
set_option maxHeartbeats 2000000 in
theorem Each_in (s : Nat) (hs : s < 2 ^ 64) (Bx : Nat) (w : World) (hx : Bx + 1 = w.heap.size) (hbx : Boxed w Bx 32 (.slice none 0 0)) :
    CallsIn Fence.wide 3 Try.prog 28 #[.int .u64 s, .func (.func 29) #[] #[.pointer (some ⟨Bx, 0, none⟩)]] w fun e W' => (∃ r, e = .returned r) ∧ (∃ v, Boxed W' Bx 32 v ∧ W'.ownsRow Bx 3 1 v (slotsOf s).length (vals (slotsOf s))) ∧ Below Bx w W' := by
  have hlen := slots_len s
  refine callsIn_of_wp_marks Try.func28 rfl trivial ?_ rfl
  simp only [Try.ntmps28, List.size_toArray, List.length_cons, List.length_nil, Nat.reduceAdd, Nat.reduceSub, Array.replicate_succ, Array.replicate_zero, List.push_toArray, List.append_toArray, List.nil_append, List.cons_append]
  gi_wp2_with (refine ⟨trivial, ?_⟩; gi_at_call 59; refine (all_in _ _ _).mono ?_; rintro e w' ⟨rfl, rfl⟩)
  obtain ⟨fv, hfv⟩ : ∃ fv : Value, fv = .func (.func 29) #[] #[.pointer (some ⟨Bx, 0, none⟩)] := ⟨_, rfl⟩
  have bF := Boxed.new w 42 (.func (.func 29) #[] #[.pointer (some ⟨Bx, 0, none⟩)])
  have bN := Boxed.new (w.alloc (.cells #[.func (.func 29) #[] #[.pointer (some ⟨Bx, 0, none⟩)]] 42)) 24 (.int .u64 (s : Int))
  rw [World.size_alloc] at bN
  have hB0 : Below Bx w ((w.alloc (.cells #[.func (.func 29) #[] #[.pointer (some ⟨Bx, 0, none⟩)]] 42)).alloc (.cells #[.int .u64 (s : Int)] 24)) := ((Below.refl _ w).alloc (by omega) _).alloc (by simp; omega) _
  refine wpIn_rangeFunc_ownG rfl (by omega) (gf := 82) (lb := #[.pointer (some ⟨w.heap.size + 1, 0, none⟩)]) rfl trivial (enters_of Try.func82 (by kernel_rfl) rfl)
    (all_stops 2 (by omega) (w.heap.size + 1) s hs _ bN) (fun h k v hv => k v (h v hv)) (fun W l o o' hl ho hco _ v hv => hv.kept (grownBy_putObj' W l o') (fun e => by cases e; rw [show W.heap[_]? = _ from hv] at ho; cases ho; cases hco)) (Below.refl _ _) (fun _ => rfl)
    (fun pre W => ((∃ v, Boxed W Bx 32 v ∧ W.ownsRow Bx 3 1 v pre.length (vals pre) ∧ True) ∧ Below Bx w W) ∧ Boxed W w.heap.size 42 (.func (.func 29) #[] #[.pointer (some ⟨Bx, 0, none⟩)]))
    (fun _ _ _ => False)
    (OwnFrom.and (OwnFrom.and (Own.from (holdsRow_own Bx Bx 32 3 1 (fun pre => pre.length) (fun pre => vals pre) (fun pre v => True)) _) (ownFrom_below (by omega) (by simp; omega))) (Own.from (boxed_own _ _ _) _))
    (fun _ _ _ _ _ hs _ _ => hs)
    ⟨⟨⟨_, (hbx.alloc _).alloc _, World.ownsRow_nil _ _ _ _, trivial⟩, hB0⟩, bF.alloc _⟩
    (fun x => { tmps := #[.int .u64 s, .func (.func 29) #[] #[.pointer (some ⟨Bx, 0, none⟩)], undef, .pointer (some ⟨w.heap.size, 0, none⟩), .int .i64 (x : Int), .int .u64 s, .func (.func 82) #[] #[.pointer (some ⟨w.heap.size + 1, 0, none⟩)], .int .i64 (x : Int), undef, undef, undef], defers := [] }) ?assign ?body ?done ?stop
  case assign =>
    intro l x W K hK
    gi_wp2
    exact hK
  case body =>
    rintro l pre x W ⟨⟨⟨v, hv, hrow, _⟩, hB⟩, hbf⟩ hlt
    have hc := hbf.cell
    have happ := app1_c W Bx Bx v pre.length (vals pre) (x : Int) hv hrow (Nat.le_of_lt hv.lt) (Nat.le_refl _) (by omega)
    gi_wp2_with (refine ⟨trivial, ?_⟩; gi_at_call 29; refine (CallsIn.inRound l (callsIn_wide.2 happ)).mono ?_; rintro e W2 ⟨⟨r, rfl⟩, ⟨v', hv', hr'⟩, hk', hb', hoth⟩)
    gi_wp2
    exact ⟨hk'.from _, fun u h => hoth _ _ _ (by decide) (by omega) h, ⟨⟨v', hv', by rw [List.length_append, vals_snoc]; exact hr', trivial⟩, hB.trans hb'⟩, hoth _ _ _ (by decide) (by omega) hbf⟩
  case done =>
    rintro D ys W hD rfl ⟨⟨⟨v, hv, hrow, _⟩, hB⟩, hbf⟩ hK
    gi_wp2
    refine ⟨by simp, .inl ⟨_, _, rfl, run_takeDeferred hK, ?_⟩⟩
    refine ⟨_, results_none rfl _ _ _, ⟨_, rfl⟩, ⟨v, ?_, ownsRow_putObj hrow _ hK rfl⟩, hB.trans (belowK_b (n₀ := Bx) (w := w) (by omega) W D _ _ (by simp at hD; omega) hK rfl rfl)⟩
    exact hv.kept (grownBy_putObj' W D _) (fun e => by cases e; rw [show W.heap[_]? = _ from hv] at hK; cases hK)
  case stop =>
    rintro D c pre W _ _ h _
    exact h.elim
end Go.Proofs.Ythllplocbciepaa.Each
