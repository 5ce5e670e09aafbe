/- Layer 8's laws: what is noted behind a Pop, walked. -/
import Derived.Test.YthllplocbciepaaCode8
import Derived.Deep.DeepCutAuto
import Derived.Deep.RegionHeld3
import Derived.Deep.AppendLies
import Derived.Deep.Slices
import Derived.Deep.RegionLaw
import Derived.BigRegion
namespace Go.Proofs.Ythllplocbciepaa.Kod.Eight
open Go.RowKit Go.Proofs.Ythllplocbciepaa Go.Proofs.Ythllplocbciepaa.Cell Go.Proofs.Ythllplocbciepaa.Wd
set_option linter.unusedVariables false
set_option linter.unusedSimpArgs false
variable {a b : Nat} {gb : Nat → Nat} {fl : FuncId}

theorem bools_under : Try.prog.underlying 84 = some (.slice 4) := by kernel_rfl
theorem bools_size : (Try.prog.info? 4).map (·.size) = some 1 := by kernel_rfl
theorem ints_info : (Try.prog.info? 3).map (fun i => (i.zero, i.size, i.bytes)) = some (some (.int .i64 0), 1, 8) := by kernel_rfl
theorem run_tail (A : Addr) {n c : Nat} (hc1 : ¬ c = 1) (w : World) : (Instr.sliceAt 84 (.slice (some A) (n + 1) c) (some (.int .i64 1)) none none).run Try.prog w = .ok (.slice (some (A.add 1)) n (c - 1)) w := by
  obtain ⟨inf, hi, hs⟩ := Option.map_eq_some_iff.1 bools_size
  have h1 : (sizeOf 4).run Try.prog w = .ok 1 w := by simp [sizeOf, typeInfo, hi, hs]
  have h2 := run_sliceBound (P := Try.prog) w .i64 1 (n + 1) .sliceB (by omega) (by omega)
  simp [Instr.sliceAt, run_underlying bools_under, Instr.slice, Instr.sliceBounds, h1, h2, hc1]
theorem Lies.tail {S : Sys} {w : World} {L : Lay} {A : Addr} {v : Value} {vs : List Value} (h : Lies S w L (some A) (v :: vs)) : Lies S w L (some (A.add 1)) vs := fun i u hi => by
  obtain ⟨a, ha, h1, h2, h3⟩ := h (i + 1) u (by simpa using hi)
  obtain rfl := Option.some.inj ha
  have hb : (A.add 1).block = A.block := by unfold Addr.add; split <;> rfl
  refine ⟨_, rfl, by rw [hb]; exact h1, by rw [hb]; exact h2, ?_⟩
  have e : (A.add 1).add i = A.add (i + 1) := by
    rw [Addr.add_add, Nat.add_comm 1 i]
  rw [e]
  exact h3

set_option maxRecDepth 100000 in
set_option maxHeartbeats 8000000 in
theorem popped_takes {m j wb n c : Nat} {i : Int} {ok : Bool} {x0 : Bool} {l : List Bool} {A : Option Addr} {w : World} {L : Lay} {bw b3 b4 : Nat} (IH : Code8 a b gb fl l) (hn : Hid (n = l.length)) (hnc : n + 1 ≤ c) (hc : c ≤ 9223372036854775807)
    (hio : (ok = true ∧ 0 ≤ i ∧ i < 4294967295) ∨ (ok = false ∧ i = -1)) (hgh : L.gh[j]? = some wb) (hl : Lies (S8 a b gb) w L A ((x0 :: l).map .bool)) (h1 : Box (S8 a b gb) w L bw (.pointer (some ⟨wb, 0, none⟩))) (hs : SBox (S8 a b gb) w L b3 0 fl) (h4 : Box (S8 a b gb) w L b4 (.slice A (n + 1) c)) :
    Takes (S8 a b gb) m #[.int .i64 i, .bool ok] (fun σ => popped j l i ok σ) (.func (.func 78) #[] #[.pointer (some ⟨bw, 0, none⟩), .pointer (some ⟨b3, 0, none⟩), .pointer (some ⟨b4, 0, none⟩)]) w L := by
  refine ⟨_, _, rfl, enters_of Try.func78 (by kernel_rfl) rfl, fun q w' L' σ rs y hx hv hy => ?_⟩
  obtain ⟨x, hxj, hroom, hent⟩ := popped_some hy
  have hgh' := gh_later hx.gh hgh
  have hj : j < σ.r.length := (List.getElem?_eq_some_iff.1 hxj).1
  have N0 := Now.start hv hxj
  obtain ⟨d0, d1, kc⟩ := N0.cells hj hgh'
  have b1 := h1.later hx
  have hs' := hs.later hx
  have b4' := h4.later hx
  have cw := b1.cell
  have k2 : w'.cell? ⟨wb, 2, none⟩ = some (.bool x.busy) := by rw [cell_of_row _ _ _ _ _ _ kc]; rfl
  have k3 : w'.cell? ⟨wb, 3, none⟩ = some (.bool x.bare) := by rw [cell_of_row _ _ _ _ _ _ kc]; rfl
  have k4 : w'.cell? ⟨wb, 4, none⟩ = some (.bool x.wrong) := by rw [cell_of_row _ _ _ _ _ _ kc]; rfl
  have z4 : w'.frozen? ⟨wb, 4, none⟩ = false := frozen_of_row _ _ _ _ _ kc
  obtain ⟨wr1, hwr1⟩ : ∃ wr1, wr1 = (x.wrong || (!ok && !x.bare) || (ok != decide (0 ≤ i))) := ⟨_, rfl⟩
  have N1 : Hid (Now a b gb q j σ rs L' w' { x with wrong := wr1 } (w'.setCell ⟨wb, 4, none⟩ (.bool wr1)).drew) := (N0.flag (x' := { x with wrong := wr1 }) hj hgh' rfl rfl (fun _ _ => rfl)).made (Made.drewN _ 1)
  have HWR := Lib.hid hwr1
  have HIO := Lib.hid hio
  clear hio hwr1
  go_enter Try.func78, Try.ntmps78
  go_upto_region 1 with fail
  go_cut [7] (fun s7 wx => s7 = .nilFunc ∧ wx = (w'.setCell ⟨wb, 4, none⟩ (.bool wr1)).drew)
  case first =>
    clear IH hl
    rcases HIO.out with ⟨rfl, hi0, hi1⟩ | ⟨rfl, rfl⟩
    · have hge : decide (0 ≤ i) = true := by simpa using hi0
      cases hwx : x.wrong
      · rw [hwx] at k4 HWR
        have e : wr1 = false := by rw [HWR.out, hge]; rfl
        subst e
        clear hge
        go_region
        all_goals
          go_wp2_with fail
          go_meet
          exact ⟨rfl, rfl⟩
      · rw [hwx] at k4 HWR
        have e : wr1 = true := by rw [HWR.out]; rfl
        subst e
        clear hge
        go_region
        all_goals
          go_wp2_with fail
          go_meet
          exact ⟨rfl, rfl⟩
    · cases hwx : x.wrong
      · cases hbx : x.bare
        · rw [hwx] at k4 HWR
          rw [hbx] at k3 HWR
          have e : wr1 = true := by rw [HWR.out]; rfl
          subst e
          go_region
          all_goals
            go_wp2_with fail
            go_meet
            exact ⟨rfl, rfl⟩
        · rw [hwx] at k4 HWR
          rw [hbx] at k3 HWR
          have e : wr1 = false := by rw [HWR.out]; rfl
          subst e
          go_region
          all_goals
            go_wp2_with fail
            go_meet
            exact ⟨rfl, rfl⟩
      · rw [hwx] at k4 HWR
        have e : wr1 = true := by rw [HWR.out]; rfl
        subst e
        go_region
        all_goals
          go_wp2_with fail
          go_meet
          exact ⟨rfl, rfl⟩
  case rest =>
    obtain ⟨rfl, rfl⟩ := hcut
    generalize hx1 : ({ x with wrong := wr1 } : W8) = x1 at N1
    have hb1 : x1.busy = x.busy := by rw [← hx1]
    have hg1 : x1.got = x.got := by rw [← hx1]
    have hh1 : x1.hands = x.hands := by rw [← hx1]
    generalize (w'.setCell ⟨wb, 4, none⟩ (.bool wr1)).drew = v1 at *
    clear cw k2 k3 k4 z4
    obtain ⟨own1, hv1, sv1, I1, X1, K1, W1⟩ := N1.out
    have cw := (b1.later X1).cell
    obtain ⟨c0, c1, kc1⟩ := N1.out.cells hj hgh'
    have k2 : v1.cell? ⟨wb, 2, none⟩ = some (.bool x1.busy) := by rw [cell_of_row _ _ _ _ _ _ kc1]; rfl
    have z2 : v1.frozen? ⟨wb, 2, none⟩ = false := frozen_of_row _ _ _ _ _ kc1
    have N2 : Hid (Now a b gb q j σ rs L' w' { x1 with busy := false } (v1.setCell ⟨wb, 2, none⟩ (.bool false))) := N1.out.flag (x' := { x1 with busy := false }) hj hgh' rfl rfl (fun _ _ => rfl)
    clear W1 I1 X1 K1 N1
    go_upto_region 3 with fail
    generalize hx2 : ({ x1 with busy := false } : W8) = x2 at N2
    have hg2 : x2.got = x.got := by rw [← hx2]; exact hg1
    have hh2 : x2.hands = x.hands := by rw [← hx2]; exact hh1
    generalize v1.setCell ⟨wb, 2, none⟩ (.bool false) = v2 at *
    clear cw k2 z2 kc1
    obtain ⟨own2, hv2, sv2, I2, X2, K2, W2⟩ := N2.out
    have bw2 := b1.later X2
    have cw := bw2.cell
    have hk2 := W2.wk j x2 wb (setw_at hj x2) hgh'
    have kc2 := hk2.cells
    have k1 : v2.cell? ⟨wb, 1, none⟩ = some (gotv x2 (gb j)) := by rw [cell_of_row _ _ _ _ _ _ kc2]; rfl
    go_cut [7, 39] (fun s7 s39 wx => s7 = .nilFunc ∧ s39 = .bool x2.got.isSome ∧ wx = v2)
    case first =>
      clear IH hl hk2 I2 X2 K2 W2 N2 hv
      cases hgx : x2.got with
      | none =>
        have k1' : v2.cell? ⟨wb, 1, none⟩ = some (.pointer none) := by rw [k1]; simp [gotv, hgx]
        clear k1
        go_wp2_with fail
        go_meet
        exact ⟨rfl, by rw [hgx]; rfl, rfl⟩
      | some g =>
        have k1' : v2.cell? ⟨wb, 1, none⟩ = some (.pointer (some ⟨gb j, 0, none⟩)) := by rw [k1]; simp [gotv, hgx]
        clear k1
        go_wp2_with fail
        go_meet
        exact ⟨rfl, by rw [hgx]; rfl, rfl⟩
    case rest =>
      obtain ⟨rfl, rfl, hwx⟩ := hcut
      have hwx' := hwx.symm
      subst hwx'
      obtain ⟨x3, hx3⟩ : ∃ x3 : W8, x3 = { x2 with got := x2.got.map (· ++ [i]) } := ⟨_, rfl⟩
      go_upto_if 39 with fail
      go_cut [7] (fun s7 wx => s7 = .nilFunc ∧ Now a b gb q j σ rs L' w' x3 wx)
      case first =>
        cases hgx : x2.got with
        | none =>
          have e3 : x3 = x2 := by
            rw [hx3, hgx]
            show ({ x2 with got := none } : W8) = x2
            rw [← hgx]
          subst e3
          clear IH hl hk2 I2 X2 K2 W2 hv
          go_wp2_with fail
          go_meet
          exact ⟨rfl, N2.out⟩
        | some g =>
          obtain ⟨g1, g2, g3, g4⟩ := hk2.got g hgx
          have e3 : x3 = { x2 with got := some (g ++ [i]) } := by rw [hx3, hgx]; rfl
          have k1' : v2.cell? ⟨wb, 1, none⟩ = some (.pointer (some ⟨gb j, 0, none⟩)) := by rw [k1]; simp [gotv, hgx]
          have kg : v2.cell? ⟨gb j, 0, none⟩ = some (sv2 j) := by rw [cell_of_row _ _ _ _ _ _ g2]; rfl
          have zg : v2.frozen? ⟨gb j, 0, none⟩ = false := frozen_of_row _ _ _ _ _ g2
          have hroom2 : g.length < 1000000 := hroom.2 g (by rw [← hg2]; exact hgx)
          have HN : Hid (∀ (o : Obj) (u : World) (g' cap : Nat), u.ownsRow 0 3 1 (.slice (some ⟨g', 0, none⟩) (g.length + 1) cap) (g.length + 1) (g.map (.int .i64) ++ [.int .i64 i]) → ((v2.alloc o).drew).grownBy u (sv2 j).ownBlock → ((sv2 j).ownBlock = some g' ∨ g' = v2.heap.size + 1) → g' < u.heap.size →
              Now a b gb q j σ rs L' w' x3 (u.setCell ⟨gb j, 0, none⟩ (.slice (some ⟨g', 0, none⟩) (g.length + 1) cap))) := by
            rw [e3]
            exact fun o u g' cap r1 r2 r3 r4 => Now.tell I2 X2 K2 W2 hj hgh' hgx r1 r2 r3 r4
          have a1 : (sv2 j).ownBlock ≠ some bw := fun e => bw2.apart (Or.inr (Or.inr (Or.inr (Or.inl (g4 _ e)))))
          have a2 : (sv2 j).ownBlock ≠ some wb := fun e => by
            obtain ⟨cur, hc⟩ := row_block g3 e
            exact kind_ne hc kc2 (by decide) rfl
          have a3 : (sv2 j).ownBlock ≠ some (gb j) := fun e => by
            obtain ⟨cur, hc⟩ := row_block g3 e
            exact kind_ne hc g2 (by decide) rfl
          have l1 := bw2.lt
          have l2 := lt_of_at kc2
          have l3 := lt_of_at g2
          obtain ⟨i0, hi0, hz0, hz1, hz2⟩ := info_parts ints_info
          have kk : ∀ (o : Obj) (b o' : Nat), b < v2.heap.size → (v2.alloc o).drew.cell? ⟨b, o', none⟩ = v2.cell? ⟨b, o', none⟩ ∧ (v2.alloc o).drew.frozen? ⟨b, o', none⟩ = v2.frozen? ⟨b, o', none⟩ := fun o b o' hb => ⟨World.cell?_of_block (heap_alloc_old _ _ hb), World.frozen?_of_block (heap_alloc_old _ _ hb)⟩
          have cwA := fun o => ((kk o bw 0 l1).1).trans cw
          have k1A := fun o => ((kk o wb 1 l2).1).trans k1'
          have kgA := fun o => ((kk o (gb j) 0 l3).1).trans kg
          have zgA := fun o => ((kk o (gb j) 0 l3).2).trans zg
          have n1 : bw ≠ gb j := fun e => bw2.apart (Or.inr (Or.inr (Or.inr (Or.inl (e ▸ g1)))))
          have n2 : wb ≠ gb j := kind_ne kc2 g2 (by decide)
          clear kk
          clear IH hl hk2 I2 X2 K2 W2 hv N2 e3 k1 hx3 HWR HIO hs' b4' b1 h1 hs h4 hx hent hgh hgh' hxj hroom hy hg2 hh2 hx1 hx2 hb1 hg1 hh1
          go_wp2_with fail
          go_region_law ((refine step_append_lies _ (by rfl) _ _ _ (by rfl) 0 3 i0 _ 1 8 Try.underlying32 hi0 hz0 hz1 hz2 rfl (by omega) (sv2 j) g.length (g.map (.int .i64)) (by rfl) ((g3.alloc _).drew) ⟨v2.heap.size, 0, none⟩ 1 1 [.int .i64 i] (by rfl) (by rfl) (World.news_of_block (cs := #[.int .i64 i]) (t := 3) (fr := (0, 0)) (heap_alloc_new v2 _)) (by simp [Value.oneCell']) (by omega) (by unfold maxLen; omega) (by omega) (by simp) (v2.heap.size + 1) (by simp) ?_; intro g' cap u r1 hgrow hat hlt; have f1 := (hgrow.cell_far ⟨gb j, 0, none⟩ (by simp; omega) (Ne.symm a3)).trans (kgA _); have f2 := (hgrow.frozen_far ⟨gb j, 0, none⟩ (by simp; omega) (Ne.symm a3)).trans (zgA _); have f3 := (hgrow.cell_far ⟨bw, 0, none⟩ (by simp; omega) (Ne.symm a1)).trans (cwA _); have f4 := (hgrow.cell_far ⟨wb, 1, none⟩ (by simp; omega) (Ne.symm a2)).trans (k1A _)))
          all_goals
            go_wp2_with fail
            go_meet
            exact ⟨rfl, HN.out _ _ _ _ r1 hgrow hat hlt⟩
      case rest =>
        obtain ⟨rfl, N3'⟩ := hcut
        have N3 := Lib.hid N3'
        have hto : x3 = { hands := x.hands, got := x.got.map (· ++ [i]), busy := false, bare := x.bare, wrong := wr1 } := by
          rw [hx3, ← hx2, ← hx1]
        have hh3 : x3.hands = x.hands := by rw [hto]
        clear cw k1 I2 X2 K2 W2 hk2 kc2 bw2 N2 N3' hx1 hx2 hx3 hb1 hg1 hh1 hg2 hh2
        obtain ⟨own3, hv3, sv3, I3, X3, K3, W3⟩ := N3.out
        have bw3 := b1.later X3
        have cw := bw3.cell
        have hk3 := W3.wk j x3 wb (setw_at hj x3) hgh'
        have kc3 := hk3.cells
        have k1 : wc.cell? ⟨wb, 0, none⟩ = some (hv3 j) := by rw [cell_of_row _ _ _ _ _ _ kc3]; rfl
        go_upto_if 54 with fail
        go_cut [7] (fun s7 wx => s7 = .nilFunc ∧ Now a b gb q j σ rs L' w' (told x i ok) wx)
        case first =>
          rcases HIO.out with ⟨rfl, hi0, hi1⟩ | ⟨rfl, rfl⟩
          · have e4 : told x i true = { x3 with hands := x3.hands ++ [i] } := by
              rw [hto, HWR.out]; rfl
            have zg : wc.frozen? ⟨wb, 0, none⟩ = false := frozen_of_row _ _ _ _ _ kc3
            have hrow3 := hk3.row
            have hroom3 : x3.hands.length < 1000000 := by rw [hh3]; exact hroom.1
            have HN : Hid (∀ (o : Obj) (u : World) (g' cap : Nat), u.ownsRow 0 3 1 (.slice (some ⟨g', 0, none⟩) (x3.hands.length + 1) cap) (x3.hands.length + 1) (x3.hands.map (.int .i64) ++ [.int .i64 i]) → ((wc.alloc o).drew).grownBy u (hv3 j).ownBlock → ((hv3 j).ownBlock = some g' ∨ g' = wc.heap.size + 1) → g' < u.heap.size →
                Now a b gb q j σ rs L' w' (told x i true) (u.setCell ⟨wb, 0, none⟩ (.slice (some ⟨g', 0, none⟩) (x3.hands.length + 1) cap))) := by
              rw [e4]
              exact fun o u g' cap r1 r2 r3 r4 => Now.take I3 X3 K3 W3 hj hgh' ⟨hi0, hi1⟩ r1 r2 r3 r4
            have a1 : (hv3 j).ownBlock ≠ some bw := fun e => bw3.apart (Or.inr (Or.inr (Or.inr (Or.inl (hk3.rown _ e)))))
            have a2 : (hv3 j).ownBlock ≠ some wb := fun e => by
              obtain ⟨cur, hc⟩ := row_block hrow3 e
              exact kind_ne hc kc3 (by decide) rfl
            have l1 := bw3.lt
            have l2 := lt_of_at kc3
            obtain ⟨i0, hi0, hz0, hz1, hz2⟩ := info_parts ints_info
            have kk : ∀ (o : Obj) (b o' : Nat), b < wc.heap.size → (wc.alloc o).drew.cell? ⟨b, o', none⟩ = wc.cell? ⟨b, o', none⟩ ∧ (wc.alloc o).drew.frozen? ⟨b, o', none⟩ = wc.frozen? ⟨b, o', none⟩ := fun o b o' hb => ⟨World.cell?_of_block (heap_alloc_old _ _ hb), World.frozen?_of_block (heap_alloc_old _ _ hb)⟩
            have cwA := fun o => ((kk o bw 0 l1).1).trans cw
            have kgA := fun o => ((kk o wb 0 l2).1).trans k1
            have zgA := fun o => ((kk o wb 0 l2).2).trans zg
            clear kk
            clear IH hl hk3 I3 X3 K3 W3 hv N3 e4 hto HWR HIO hs' b4' b1 h1 hs h4 hx hent hgh hgh' hxj hroom hy hh3
            go_wp2_with fail
            go_region_law ((refine step_append_lies _ (by rfl) _ _ _ (by rfl) 0 3 i0 _ 1 8 Try.underlying32 hi0 hz0 hz1 hz2 rfl (by omega) (hv3 j) x3.hands.length (x3.hands.map (.int .i64)) (by rfl) ((hrow3.alloc _).drew) ⟨wc.heap.size, 0, none⟩ 1 1 [.int .i64 i] (by rfl) (by rfl) (World.news_of_block (cs := #[.int .i64 i]) (t := 3) (fr := (0, 0)) (heap_alloc_new wc _)) (by simp [Value.oneCell']) (by omega) (by unfold maxLen; omega) (by omega) (by simp) (wc.heap.size + 1) (by simp) ?_; intro g' cap u r1 hgrow hat hlt; have f1 := (hgrow.cell_far ⟨wb, 0, none⟩ (by simp; omega) (Ne.symm a2)).trans (kgA _); have f2 := (hgrow.frozen_far ⟨wb, 0, none⟩ (by simp; omega) (Ne.symm a2)).trans (zgA _); have f3 := (hgrow.cell_far ⟨bw, 0, none⟩ (by simp; omega) (Ne.symm a1)).trans (cwA _)))
            all_goals
              go_wp2_with fail
              go_meet
              exact ⟨rfl, HN.out _ _ _ _ r1 hgrow hat hlt⟩
          · have e4 : told x (-1) false = x3 := by
              rw [hto, HWR.out]; rfl
            clear IH hl hk3 I3 X3 K3 W3 hv
            go_wp2_with fail
            go_meet
            exact ⟨rfl, by rw [e4]; exact N3.out⟩
        case rest =>
          obtain ⟨rfl, N4⟩ := hcut
          clear cw k1 I3 X3 K3 W3 hk3 kc3 bw3 N3
          obtain ⟨own4, hv4, sv4, I4, X4, K4, W4⟩ := N4
          have hn0 : n = l.length := hn.out
          obtain ⟨A', rfl⟩ : ∃ A', A = some A' := by
            obtain ⟨A', hA, _⟩ := hl 0 _ rfl
            exact ⟨A', hA⟩
          have hl4 := ((hl.later hx).later X4).later (Ext.of_made (Made.drewN wc 1))
          have I5 := I4.later (Made.drewN wc 1)
          have X5 := X4.trans (Ext.of_made (Made.drewN wc 1))
          have K5 := K4.trans (I4.keeps_made (Made.drewN wc 1))
          have s4 := hs'.later X4
          have c0 := s4.c0
          have c1 := s4.c1
          have c2 := s4.c2
          have c4 := (b4'.later X4).cell
          have cw := (b1.later X4).cell
          have HG : Hid (∀ e w2, Gives (S8 a b gb) m q y rs { L' with own := own4 } wc.drew e w2 → Gives (S8 a b gb) m q y rs L' w' e w2 ∧ w2.cell? ⟨b3, 0, none⟩ = some (.pointer (some ⟨a, 0, none⟩)) ∧ w2.cell? ⟨b3, 1, none⟩ = some (.int .i64 0) ∧ w2.cell? ⟨b3, 2, none⟩ = some (.func (.func fl) #[] #[]) ∧ w2.cell? ⟨b4, 0, none⟩ = some (.slice (some A') (n + 1) c) ∧ w2.cell? ⟨bw, 0, none⟩ = some (.pointer (some ⟨wb, 0, none⟩)) ∧ ∃ v, e = .returned v) := by
            intro e w2 hg
            have hg' := hg.ext X5 K5
            obtain ⟨v, L2, rfl, hx2, _⟩ := hg
            have s5 := (hs'.later X5).later hx2
            exact ⟨hg', s5.c0, s5.c1, s5.c2, ((b4'.later X5).later hx2).cell, ((b1.later X5).later hx2).cell, v, rfl⟩
          by_cases hc1 : c = 1
          · have hl0 : l = [] := List.length_eq_zero_iff.1 (by omega)
            obtain rfl : n = 0 := by omega
            have HC : Hid (Calls Try.prog 51 #[.agg #[.pointer (some ⟨a, 0, none⟩), .int .i64 0, .func (.func fl) #[] #[]], .slice (some A') 0 0, .pointer (some ⟨wb, 0, none⟩)] wc.drew (Gives (S8 a b gb) m q y rs { L' with own := own4 } wc.drew)) :=
              IH m j wb 0 0 q (some A') wc.drew _ _ rs y I5 hgh' hn (by omega) (by omega) (by rw [hl0]; exact Lies.nil) hent
            have c4' : wc.cell? ⟨b4, 0, none⟩ = some (.slice (some A') 1 1) := by rw [c4, hc1]
            have HG1 : Hid (∀ e w2, Gives (S8 a b gb) m q y rs { L' with own := own4 } wc.drew e w2 → Gives (S8 a b gb) m q y rs L' w' e w2 ∧ w2.cell? ⟨b3, 0, none⟩ = some (.pointer (some ⟨a, 0, none⟩)) ∧ w2.cell? ⟨b3, 1, none⟩ = some (.int .i64 0) ∧ w2.cell? ⟨b3, 2, none⟩ = some (.func (.func fl) #[] #[]) ∧ w2.cell? ⟨b4, 0, none⟩ = some (.slice (some A') 1 1) ∧ w2.cell? ⟨bw, 0, none⟩ = some (.pointer (some ⟨wb, 0, none⟩)) ∧ ∃ v, e = .returned v) := by
              rw [hc1] at HG
              exact HG.out
            clear HG c4 hl0 hc1 hn0 hn
            clear IH hl I4 X4 K4 W4 hl4 I5 X5 K5 s4 hs' b4' b1 h1 hs h4 hx hent hgh hgh' hxj hroom hy hto HWR HIO hv N0 kc hh3
            go_wp2_with fail
            go_region_held3 (fun w1 => w1.cell? ⟨b3, 0, none⟩ = some (.pointer (some ⟨a, 0, none⟩)) ∧ w1.cell? ⟨b3, 1, none⟩ = some (.int .i64 0) ∧ w1.cell? ⟨b3, 2, none⟩ = some (.func (.func fl) #[] #[]) ∧ w1.cell? ⟨b4, 0, none⟩ = some (.slice (some A') 1 1) ∧ w1.cell? ⟨bw, 0, none⟩ = some (.pointer (some ⟨wb, 0, none⟩))) (first | (refine ⟨?_, ?_, ?_, ?_, ?_⟩ <;> first | assumption | simpa using c0 | simpa using c1 | simpa using c2 | simpa using c4' | simpa using cw)) ((go_at_call 51; refine HC.out.mono ?_; rintro e w2 hmk; obtain ⟨hg, d0, d1, d2, d4, dw, v, rfl⟩ := HG1.out e w2 hmk))
            go_wp2_with fail
            go_ret
            exact hg
          · have HC : Hid (Calls Try.prog 51 #[.agg #[.pointer (some ⟨a, 0, none⟩), .int .i64 0, .func (.func fl) #[] #[]], .slice (some (A'.add 1)) n (c - 1), .pointer (some ⟨wb, 0, none⟩)] wc.drew (Gives (S8 a b gb) m q y rs { L' with own := own4 } wc.drew)) :=
              IH m j wb n (c - 1) q (some (A'.add 1)) wc.drew _ _ rs y I5 hgh' hn (by omega) (by omega) (Lies.tail hl4) hent
            have hsl := fun w1 => run_tail A' (n := n) hc1 w1
            clear IH hl I4 X4 K4 W4 hl4 I5 X5 K5 s4 hs' b4' b1 h1 hs h4 hx hent hgh hgh' hxj hroom hy hto HWR HIO hv N0 kc hh3 hn0 hn
            go_wp2_with fail
            go_region_held3 (fun w1 => w1.cell? ⟨b3, 0, none⟩ = some (.pointer (some ⟨a, 0, none⟩)) ∧ w1.cell? ⟨b3, 1, none⟩ = some (.int .i64 0) ∧ w1.cell? ⟨b3, 2, none⟩ = some (.func (.func fl) #[] #[]) ∧ w1.cell? ⟨b4, 0, none⟩ = some (.slice (some A') (n + 1) c) ∧ w1.cell? ⟨bw, 0, none⟩ = some (.pointer (some ⟨wb, 0, none⟩))) (first | (refine ⟨?_, ?_, ?_, ?_, ?_⟩ <;> first | assumption | simpa using c0 | simpa using c1 | simpa using c2 | simpa using c4 | simpa using cw)) ((go_at_call 51; refine HC.out.mono ?_; rintro e w2 hmk; obtain ⟨hg, d0, d1, d2, d4, dw, v, rfl⟩ := HG.out e w2 hmk))
            go_wp2_with fail
            go_ret
            exact hg
end Go.Proofs.Ythllplocbciepaa.Kod.Eight
