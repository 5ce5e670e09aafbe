/- Layer 8's laws: what is noted behind a Push, walked. -/
import Derived.Test.YthllplocbciepaaCode8b
namespace Go.Proofs.Ythllplocbciepaa.Kod.Eight
open Go.RowKit Go.Proofs.Ythllplocbciepaa Go.Proofs.Ythllplocbciepaa.Cell Go.Proofs.Ythllplocbciepaa.Wd
set_option linter.unusedVariables false
set_option linter.unusedSimpArgs false
variable {a b : Nat} {gb : Nat → Nat} {fl : FuncId}

theorem ints_under : Try.prog.underlying 32 = some (.slice 3) := by kernel_rfl
theorem ints_size : (Try.prog.info? 3).map (·.size) = some 1 := by kernel_rfl
theorem run_cut_to (A : Option Addr) {n c k : Nat} (hk : k ≤ c) (w : World) : (Instr.sliceAt 32 (.slice A n c) none (some (.int .i64 (k : Int))) none).run Try.prog w = .ok (.slice A k c) w := by
  obtain ⟨inf, hi, hs⟩ := Option.map_eq_some_iff.1 ints_size
  have h1 : (sizeOf 3).run Try.prog w = .ok 1 w := by simp [sizeOf, typeInfo, hi, hs]
  have h2 := run_sliceBound (P := Try.prog) w .i64 k c .sliceAcap (by omega) (by omega)
  have h3 : A.map (fun x => x.add 0) = A := by cases A <;> simp [Addr.add]
  simp [Instr.sliceAt, run_underlying ints_under, Instr.slice, Instr.sliceBounds, h1, h2, h3]
theorem pushed_some {j : Nat} {l : List Bool} {σ : St (List W8)} {y : K8 × St (List W8)} (h : pushed j l σ = some y) : ∃ x, σ.r[j]? = some x ∧ x.hands ≠ [] ∧ enter j l (setw σ j { x with hands := x.hands.dropLast }) = some y := by
  unfold pushed at h
  split at h
  · simp at h
  · rename_i x hx
    split at h
    · simp at h
    · exact ⟨x, hx, ‹_›, h⟩
/-- The last one is given away. -/
theorem Now.drop {q j wb g n cap : Nat} {σ : St (List W8)} {rs : List Value} {L : Lay} {w v : World} {x : W8} {own2 : Nat → Prop} {hv sv : Nat → Value} {gb : Nat → Nat} (I : Inv (S8 a b gb) q (setw σ j x) rs { L with own := own2 } v) (X : Ext (S8 a b gb) w L v { L with own := own2 }) (K : Keeps w L v { L with own := own2 }) (W : W8s (setw σ j x).r own2 L.gh v hv sv gb) (hj : j < σ.r.length) (hg : L.gh[j]? = some wb)
    (hn : x.hands.length = n + 1) (hv1 : hv j = .slice (some ⟨g, 0, none⟩) (n + 1) cap) : Now a b gb q j σ rs L w { x with hands := x.hands.dropLast } (v.setCell ⟨wb, 0, none⟩ (.slice (some ⟨g, 0, none⟩) n cap)) := by
  have hk := W.wk j x wb (setw_at hj x) hg
  have k2 := hk.cells
  obtain ⟨e0, e1⟩ := hk.row
  rcases e1 with ⟨e1, e2⟩ | ⟨g', cap', cur, e1, hb, hgc, hnc, hcm, hcs, htk⟩
  · omega
  rw [hv1] at e1
  simp only [Value.slice.injEq, Option.some.injEq, Addr.mk.injEq] at e1
  obtain ⟨⟨rfl, -⟩, -, rfl⟩ := e1
  have hne : g ≠ wb := kind_ne hgc k2 (by decide)
  have hu := upd (L := { L with own := own2 }) (x' := { x with hands := x.hands.dropLast }) (hv' := .slice (some ⟨g, 0, none⟩) n cap) I W (setw_at hj x) hg ((Wrote.set wb 0 v (.slice (some ⟨g, 0, none⟩) n cap)).mono fun k _ e => Or.inl e) (by
    rw [setCell_eq_setRow _ _ _ _ _ _ _ k2, heap_setRow_same _ _ _ _ _ _ k2]
    rfl) (by
    have e1 : x.hands.dropLast.length = n := by simp [hn]
    simp only [e1]
    refine ⟨by simp [hn], Or.inr ⟨g, cap, cur, rfl, Nat.zero_le _, (Cell.heap_setCell_other _ _ _ _ _ hne).trans hgc, by omega, hcm, hcs, ?_⟩⟩
    rw [List.dropLast_eq_take, List.map_take, ← htk, List.take_take]
    congr 1
    omega) (fun k hk => by
    obtain rfl : g = k := by simpa [Value.ownBlock] using hk
    exact ⟨Or.inl (by rw [hv1]; rfl), by simpa [World.setCell] using lt_of_at hgc⟩) rfl (fun z hz => hk.rng z (List.mem_of_mem_take (List.dropLast_eq_take ▸ hz)))
  rw [setw_setw] at hu
  exact ⟨_, _, sv, hu.1, X.trans hu.2.1, K.trans hu.2.2.1, hu.2.2.2⟩

set_option maxRecDepth 100000 in
set_option maxHeartbeats 8000000 in
theorem pushed_takes {m j wb n c : Nat} {x0 : Bool} {l : List Bool} {A : Option Addr} {w : World} {L : Lay} {bw b3 b4 : Nat} (IH : Code8 a b gb fl l) (hn : Hid (n = l.length)) (hnc : n + 1 ≤ c) (hc : c ≤ 9223372036854775807)
    (hgh : L.gh[j]? = some wb) (hl : Lies (S8 a b gb) w L A ((x0 :: l).map .bool)) (h1 : Box (S8 a b gb) w L bw (.pointer (some ⟨wb, 0, none⟩))) (hs : SBox (S8 a b gb) w L b3 0 fl) (h4 : Box (S8 a b gb) w L b4 (.slice A (n + 1) c)) :
    Takes (S8 a b gb) m #[] (fun σ => pushed j l σ) (.func (.func 80) #[] #[.pointer (some ⟨bw, 0, none⟩), .pointer (some ⟨b3, 0, none⟩), .pointer (some ⟨b4, 0, none⟩)]) w L := by
  refine ⟨_, _, rfl, enters_of Try.func80 (by kernel_rfl) rfl, fun q w' L' σ rs y hx hv hy => ?_⟩
  obtain ⟨x, hxj, hne, hent⟩ := pushed_some hy
  have hgh' := gh_later hx.gh hgh
  have hj : j < σ.r.length := (List.getElem?_eq_some_iff.1 hxj).1
  have b1 := h1.later hx
  have hs' := hs.later hx
  have b4' := h4.later hx
  have cw := b1.cell
  obtain ⟨own2, hv2, sv2, I2, X2, K2, W2⟩ := Now.start hv hxj
  have hk2 := W2.wk j x wb (setw_at hj x) hgh'
  have kc := hk2.cells
  obtain ⟨N, n1, hN, hNn⟩ : ∃ N n1, x.hands.length = N ∧ N = n1 + 1 := ⟨_, x.hands.length - 1, rfl, by have := List.length_pos_iff.2 hne; omega⟩
  obtain ⟨g, cap, hvj, hcap⟩ : ∃ g cap, hv2 j = .slice (some ⟨g, 0, none⟩) N cap ∧ N ≤ cap ∧ cap ≤ maxLen := by
    obtain ⟨e0, e1⟩ := hk2.row
    rcases e1 with ⟨e1, e2⟩ | ⟨g', cap', cur, e1, hb, hgc, hnc, hcm, hcs, htk⟩
    · omega
    · exact ⟨g', cap', by rw [e1, hN], by omega, hcm⟩
  have k0 : w'.cell? ⟨wb, 0, none⟩ = some (.slice (some ⟨g, 0, none⟩) N cap) := by rw [cell_of_row _ _ _ _ _ _ kc, ← hvj]; rfl
  have z0 : w'.frozen? ⟨wb, 0, none⟩ = false := frozen_of_row _ _ _ _ _ kc
  have HN : Hid (Now a b gb q j σ rs L' w' { x with hands := x.hands.dropLast } (w'.setCell ⟨wb, 0, none⟩ (.slice (some ⟨g, 0, none⟩) n1 cap))) := Now.drop I2 X2 K2 W2 hj hgh' (by omega) (by rw [hvj, hNn])
  have hcb : cap ≤ 9223372036854775807 := Nat.le_trans hcap.2 (by unfold maxLen; omega)
  have hw : IntKind.i64.wrap ((N : Int) - 1) = (n1 : Int) := by rw [IntKind.wrap_i64]; omega
  have hsl := fun w => run_cut_to (some ⟨g, 0, none⟩) (n := N) (c := cap) (k := n1) (by omega) w
  have hn1 : n1 ≤ cap := by omega
  rw [Array.empty_append]
  clear hvj hk2 I2 X2 K2 W2 kc hcap hNn hN
  go_enter Try.func80, Try.ntmps80
  go_upto_region 1 with fail
  go_cut [3] (fun s3 wx => s3 = .nilFunc ∧ wx = (w'.setCell ⟨wb, 0, none⟩ (.slice (some ⟨g, 0, none⟩) n1 cap)).drew)
  case first =>
    clear IH hl HN hs' b4' b1 h1 hs h4 hx hent hgh hgh' hxj hne hy hn hv hj
    go_region
    all_goals
      go_wp2_with fail
      go_meet
      exact ⟨rfl, rfl⟩
  case rest =>
    obtain ⟨rfl, rfl⟩ := hcut
    have N4 := HN.out.made (Made.drewN _ 1)
    have N5 : Now a b gb q j σ rs L' w' { x with hands := x.hands.dropLast } (w'.setCell ⟨wb, 0, none⟩ (.slice (some ⟨g, 0, none⟩) n1 cap)).drew := N4
    clear N4 HN cw k0 z0
    generalize (w'.setCell ⟨wb, 0, none⟩ (.slice (some ⟨g, 0, none⟩) n1 cap)).drew = wc at *
    clear hw hsl hn1 hcb
    generalize ({ x with hands := x.hands.dropLast } : W8) = x4 at *
    obtain ⟨own4, hv4, sv4, I4, X4, K4, W4⟩ := N5
    have hn0 : n = l.length := hn.out
    obtain ⟨A', rfl⟩ : ∃ A', A = some A' := by
      obtain ⟨A', hA, _⟩ := hl 0 _ rfl
      exact ⟨A', hA⟩
    have hl4 := ((hl.later hx).later X4).later (Ext.of_made (Made.drewN wc 1))
    have I5 := I4.later (Made.drewN wc 1)
    have X5 := X4.trans (Ext.of_made (Made.drewN wc 1))
    have K5 := K4.trans (I4.keeps_made (Made.drewN wc 1))
    have s4 := hs'.later X4
    have c0 := s4.c0
    have c1 := s4.c1
    have c2 := s4.c2
    have c4 := (b4'.later X4).cell
    have cw := (b1.later X4).cell
    have HG : Hid (∀ e w2, Gives (S8 a b gb) m q y rs { L' with own := own4 } wc.drew e w2 → Gives (S8 a b gb) m q y rs L' w' e w2 ∧ w2.cell? ⟨b3, 0, none⟩ = some (.pointer (some ⟨a, 0, none⟩)) ∧ w2.cell? ⟨b3, 1, none⟩ = some (.int .i64 0) ∧ w2.cell? ⟨b3, 2, none⟩ = some (.func (.func fl) #[] #[]) ∧ w2.cell? ⟨b4, 0, none⟩ = some (.slice (some A') (n + 1) c) ∧ w2.cell? ⟨bw, 0, none⟩ = some (.pointer (some ⟨wb, 0, none⟩)) ∧ ∃ v, e = .returned v) := by
      intro e w2 hg
      have hg' := hg.ext X5 K5
      obtain ⟨v, L2, rfl, hx2, _⟩ := hg
      have s5 := (hs'.later X5).later hx2
      exact ⟨hg', s5.c0, s5.c1, s5.c2, ((b4'.later X5).later hx2).cell, ((b1.later X5).later hx2).cell, v, rfl⟩
    by_cases hc1 : c = 1
    · have hl0 : l = [] := List.length_eq_zero_iff.1 (by omega)
      obtain rfl : n = 0 := by omega
      have HC : Hid (Calls Try.prog 51 #[.agg #[.pointer (some ⟨a, 0, none⟩), .int .i64 0, .func (.func fl) #[] #[]], .slice (some A') 0 0, .pointer (some ⟨wb, 0, none⟩)] wc.drew (Gives (S8 a b gb) m q y rs { L' with own := own4 } wc.drew)) :=
        IH m j wb 0 0 q (some A') wc.drew _ _ rs y I5 hgh' hn (by omega) (by omega) (by rw [hl0]; exact Lies.nil) hent
      have c4' : wc.cell? ⟨b4, 0, none⟩ = some (.slice (some A') 1 1) := by rw [c4, hc1]
      have HG1 : Hid (∀ e w2, Gives (S8 a b gb) m q y rs { L' with own := own4 } wc.drew e w2 → Gives (S8 a b gb) m q y rs L' w' e w2 ∧ w2.cell? ⟨b3, 0, none⟩ = some (.pointer (some ⟨a, 0, none⟩)) ∧ w2.cell? ⟨b3, 1, none⟩ = some (.int .i64 0) ∧ w2.cell? ⟨b3, 2, none⟩ = some (.func (.func fl) #[] #[]) ∧ w2.cell? ⟨b4, 0, none⟩ = some (.slice (some A') 1 1) ∧ w2.cell? ⟨bw, 0, none⟩ = some (.pointer (some ⟨wb, 0, none⟩)) ∧ ∃ v, e = .returned v) := by
        rw [hc1] at HG
        exact HG.out
      clear HG c4 hl0 hc1 hn0 hn
      clear IH hl I4 X4 K4 W4 hl4 I5 X5 K5 s4 hs' b4' b1 h1 hs h4 hx hent hgh hgh' hxj hy hv hne
      go_wp2_with fail
      go_region_held3 (fun w1 => w1.cell? ⟨b3, 0, none⟩ = some (.pointer (some ⟨a, 0, none⟩)) ∧ w1.cell? ⟨b3, 1, none⟩ = some (.int .i64 0) ∧ w1.cell? ⟨b3, 2, none⟩ = some (.func (.func fl) #[] #[]) ∧ w1.cell? ⟨b4, 0, none⟩ = some (.slice (some A') 1 1) ∧ w1.cell? ⟨bw, 0, none⟩ = some (.pointer (some ⟨wb, 0, none⟩))) (first | (refine ⟨?_, ?_, ?_, ?_, ?_⟩ <;> first | assumption | simpa using c0 | simpa using c1 | simpa using c2 | simpa using c4' | simpa using cw)) ((go_at_call 51; refine HC.out.mono ?_; rintro e w2 hmk; obtain ⟨hg, d0, d1, d2, d4, dw, v, rfl⟩ := HG1.out e w2 hmk))
      go_wp2_with fail
      go_ret
      exact hg
    · have HC : Hid (Calls Try.prog 51 #[.agg #[.pointer (some ⟨a, 0, none⟩), .int .i64 0, .func (.func fl) #[] #[]], .slice (some (A'.add 1)) n (c - 1), .pointer (some ⟨wb, 0, none⟩)] wc.drew (Gives (S8 a b gb) m q y rs { L' with own := own4 } wc.drew)) :=
        IH m j wb n (c - 1) q (some (A'.add 1)) wc.drew _ _ rs y I5 hgh' hn (by omega) (by omega) (Lies.tail hl4) hent
      have hsl := fun w1 => run_tail A' (n := n) hc1 w1
      clear IH hl I4 X4 K4 W4 hl4 I5 X5 K5 s4 hs' b4' b1 h1 hs h4 hx hent hgh hgh' hxj hy hv hne hn0 hn
      go_wp2_with fail
      go_region_held3 (fun w1 => w1.cell? ⟨b3, 0, none⟩ = some (.pointer (some ⟨a, 0, none⟩)) ∧ w1.cell? ⟨b3, 1, none⟩ = some (.int .i64 0) ∧ w1.cell? ⟨b3, 2, none⟩ = some (.func (.func fl) #[] #[]) ∧ w1.cell? ⟨b4, 0, none⟩ = some (.slice (some A') (n + 1) c) ∧ w1.cell? ⟨bw, 0, none⟩ = some (.pointer (some ⟨wb, 0, none⟩))) (first | (refine ⟨?_, ?_, ?_, ?_, ?_⟩ <;> first | assumption | simpa using c0 | simpa using c1 | simpa using c2 | simpa using c4 | simpa using cw)) ((go_at_call 51; refine HC.out.mono ?_; rintro e w2 hmk; obtain ⟨hg, d0, d1, d2, d4, dw, v, rfl⟩ := HG.out e w2 hmk))
      go_wp2_with fail
      go_ret
      exact hg
end Go.Proofs.Ythllplocbciepaa.Kod.Eight
