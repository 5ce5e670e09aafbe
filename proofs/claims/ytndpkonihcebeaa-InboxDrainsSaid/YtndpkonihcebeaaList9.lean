/- Layer 9's laws: a stack's List, walked. -/
import Derived.Test.YtndpkonihcebeaaPl9
import Derived.Test.YtndpkonihcebeaaCode9a
import Derived.OwnWalk
import Derived.Deep.AppendLies
namespace Go.Proofs.Ytndpkonihcebeaa.Kod.Nine
open Go.RowKit Go.Proofs.Ytndpkonihcebeaa Go.Proofs.Ytndpkonihcebeaa.Cell Go.Proofs.Ytndpkonihcebeaa.Wd
set_option linter.unusedVariables false
set_option linter.unusedSimpArgs false

theorem app_below {W w1 : World} {base : Nat} {v : Value} {k : Nat} {xs : List Value} {tmp : Obj} (hrow : W.ownsRow base 3 1 v k xs) (hb : base ≤ W.heap.size) (hgrow : (W.alloc tmp).grownBy w1 v.ownBlock) : Below base W w1 := by
  refine (((Below.refl base W).alloc hb tmp).grown hgrow (by simp; omega) fun j ej => ?_)
  rcases hrow.2 with ⟨rfl, _⟩ | ⟨g, cap, cur, rfl, hb, _, _⟩
  · simp [Value.ownBlock] at ej
  · obtain rfl : g = j := by simpa [Value.ownBlock] using ej
    exact hb
theorem lit_news (w : World) (x : Int) (j : Nat) (u : Value) (hu : [Value.int .i64 x][j]? = some u) : (w.alloc (.cells #[.int .i64 x] 3)).cell? ((⟨w.heap.size, 0, none⟩ : Addr).add j) = some u := by
  have hj : j < 1 := by
    have := (List.getElem?_eq_some_iff.1 hu).1
    simpa using this
  obtain rfl : j = 0 := by omega
  rw [show (⟨w.heap.size, 0, none⟩ : Addr).add 0 = ⟨w.heap.size, 0, none⟩ by simp [Addr.add], cell_of_row _ _ _ _ _ _ (Go.heap_alloc_new w _)]
  exact hu
theorem row_mono {w : World} {B B' : Nat} {v : Value} {n : Nat} {xs : List Value} (h : w.ownsRow B 3 1 v n xs) (hb : B' ≤ B) : w.ownsRow B' 3 1 v n xs :=
  ⟨h.1, h.2.imp id fun ⟨g, cap, cur, a1, a2, a3⟩ => ⟨g, cap, cur, a1, Nat.le_trans hb a2, a3⟩⟩
theorem take_snoc {s : List Int} {k : Nat} {i : Int} {t : List Int} (h : s.drop k = i :: t) : s.take (k + 1) = s.take k ++ [i] ∧ s.drop (k + 1) = t ∧ k < s.length := by
  have hk : k < s.length := by
    by_cases hk : k < s.length
    · exact hk
    · rw [List.drop_eq_nil_of_le (by omega)] at h
      simp at h
  have h1 : s[k]? = some i := by
    have := congrArg (fun l => l[0]?) h
    simpa using this
  refine ⟨?_, ?_, hk⟩
  · rw [List.take_add_one, h1]
    rfl
  · have := congrArg (List.drop 1) h
    simpa [List.drop_drop] using this
set_option maxRecDepth 100000 in
set_option maxHeartbeats 2000000 in
theorem List_c {w : World} {a b : Nat} {c : Int} {xs s : List Int} {nn qd : Nat} (hA : Arena w a b c xs) (hw : ∀ x ∈ xs, 0 ≤ x ∧ x < 18446744073709551616) (hh : qd < 2) (hs : Chn nn xs (ix (xs.getD qd 0)) s) (hxl : xs.length = 2 + 2 * nn) (hnn : nn ≤ 100) (hmany : s.length ≤ nn) :
    Calls Try.prog 25 #[.agg #[.pointer (some ⟨a, 0, none⟩), .int .i64 (qd : Int), .func (.func 40) #[] #[]]] w fun e w' => ∃ A c, e = .returned (.slice A s.length c) ∧ w'.ownsRow w.heap.size 3 1 (.slice A s.length c) s.length (s.map (.int .i64)) ∧ Made w w' := by
  have hfew : xs.length ≤ 1000 := by omega
  have hpos : qd < xs.length := by omega
  have hmany : s.length ≤ xs.length := by omega
  have m0 : Made w (w.alloc (.cells #[.pointer (some ⟨a, 0, none⟩), .int .i64 (qd : Int), .func (.func 40) #[] #[]] 29)) := (Made.refl w).alloc (Nat.le_refl _) _
  have HAL := Lib.hid (All_c (hA.later m0) (by omega))
  have HM0 := Lib.hid m0
  have hx0 : U64 (xs.getD qd 0) := by
    rw [List.getD_eq_getElem?_getD, List.getElem?_eq_getElem hpos]
    exact hw _ (List.getElem_mem hpos)
  have HHD := Lib.hid (HeadOf_i (xs.getD qd 0) hx0)
  have HS := Lib.hid hs
  have HLK := Lib.hid link9
  have hfd := field1
  obtain ⟨n, hn⟩ : ∃ n, n = xs.length := ⟨_, rfl⟩
  have HN := Lib.hid hn
  rw [← hn] at HAL hfew hpos hmany
  obtain ⟨iu, hi, hz0⟩ := Option.map_eq_some_iff.1 ints_info
  simp only [Prod.mk.injEq] at hz0
  obtain ⟨hz0, hz1, hz2⟩ := hz0
  have HI := Lib.hid (And.intro hi (And.intro hz0 (And.intro hz1 hz2)))
  have HXL := Lib.hid hxl
  clear hi hz0 hz1 hz2 hs hA hw m0 hx0 hn hxl
  go_enter Try.func25, Try.ntmps25
  go_wp2_with fail
  refine HAL.out.mono ?_
  rintro e w1 ⟨rfl, hrow, hm1⟩
  simp only [World.size_alloc] at hrow
  have hb0 : w1.heap[w.heap.size]? = some (.cells #[.pointer (some ⟨a, 0, none⟩), .int .i64 (qd : Int), .func (.func 40) #[] #[]] 29 (0, 0)) := (hm1.block _ (by simp only [World.size_alloc]; omega)).trans (heap_alloc_new _ _)
  have HM1 := Lib.hid (Made.trans HM0.out hm1)
  have hlt0 := lt_of_at hb0
  have hlt1 := lt_of_at hrow
  have hsz := HM1.out.size
  have HB0 := Lib.hid hb0
  have HRW := Lib.hid hrow
  have q1 : w1.cell? ⟨w.heap.size, 1, none⟩ = some (.int .i64 (qd : Int)) := by rw [cell_of_row _ _ _ _ _ _ hb0]; rfl
  have qa : w1.cell? ⟨w.heap.size + 1, qd, none⟩ = some (.int .u64 (xs.getD qd 0)) := by
    have hl : qd < xs.length := by have := HN.out; omega
    rw [cell_of_row _ _ _ _ _ _ hrow, List.getD_eq_getElem?_getD, List.getElem?_eq_getElem hl]
    exact row_at' hl
  have hnp : (qd : Int) < (n : Int) := by omega
  have hnp0 : (0 : Int) ≤ (qd : Int) := by omega
  have HCH : Hid (∃ f, f = ix (xs.getD qd 0) ∧ Chn nn xs f s) := ⟨_, rfl, HS.out⟩
  generalize hh0 : xs.getD qd 0 = h0 at *
  have HH0 := Lib.hid hh0
  clear hh0
  clear hm1 HAL HM0 hrow hb0
  simp only [World.size_alloc]
  go_wp2_with fail
  refine (HHD.out _).mono ?_
  rintro e w2 ⟨rfl, hm2⟩
  have HM2 := Lib.hid (Made.trans HM1.out hm2)
  have HB2 := Lib.hid ((hm2.block _ hlt0).trans HB0.out)
  have HR2 := Lib.hid ((hm2.block _ hlt1).trans HRW.out)
  have hs2 := hm2.size
  clear HHD HM1 HB0 HRW q1 qa hm2
  go_wp2_with fail
  have hixe : ix h0 = ix (xs.getD qd 0) := by rw [HH0.out]
  have HIX := Lib.hid hixe
  clear hixe
  go_loopw [4, 5] (fun v i wr => ∃ (k : Nat) (f : Int) (A : Option Addr) (cp : Nat), v = .slice A k cp ∧ i = .int .i64 f ∧ k ≤ s.length ∧ Hid (Chn nn xs f (s.drop k)) ∧ Hid (wr.ownsRow w2.heap.size 3 1 (.slice A k cp) k ((s.take k).map (.int .i64))) ∧ Hid (Below w2.heap.size w2 wr)) (fun v _ _ => match v with | .slice _ m _ => s.length - m | _ => 0)
  case atStart => exact ⟨0, ix h0, none, 0, rfl, rfl, by omega, by show Chn _ _ _ _; exact HS.out, World.ownsRow_nil _ _ _ _, Below.refl _ _⟩
  case round =>
    obtain ⟨k, f, A, cp, rfl, rfl, hk, HC, HO, HB⟩ := hrel
    have hsz : w2.heap.size ≤ wr.heap.size := HB.out.size
    cases hd : s.drop k with
    | nil =>
      have hke : k = s.length := by
        have := congrArg List.length hd
        simp at this
        omega
      have hf : f = -1 := by have := HC.out; rw [hd] at this; exact this
      subst hf
      subst hke
      have HO' : Hid (wr.ownsRow w2.heap.size 3 1 (.slice A s.length cp) s.length (s.map (.int .i64))) := by have := HO.out; rw [List.take_length] at this; exact this
      clear hd
      go_wp2_with fail
      go_ret
      exact ⟨_, _, rfl, row_mono HO'.out HM2.out.size, Made.trans HM2.out ((HB.out).mono (Nat.le_refl _))⟩
    | cons i0 t =>
      have hch := HC.out
      rw [hd] at hch
      obtain ⟨hfi, h1, h2, h3, h4, h5⟩ := hch
      subst hfi
      obtain ⟨fn, rfl⟩ := Int.eq_ofNat_of_zero_le h1
      have e1 : ((fn : Int) + 2).toNat = fn + 2 := by omega
      rw [e1] at h3 h4 h5
      obtain ⟨g1, g2, g3⟩ := take_snoc hd
      have hnl := HN.out
      have hxl2 := HXL.out
      have hxl : fn + 2 < xs.length := by omega
      clear hxl2
      have hrx : xs[fn + 2]? = some (xs.getD (fn + 2) 0) := by rw [List.getD_eq_getElem?_getD, List.getElem?_eq_getElem hxl]; rfl
      have hcx : (row xs)[fn + 2]? = some (.int .u64 (xs.getD (fn + 2) 0)) := by
        rw [List.getElem?_eq_getElem hxl] at hrx
        rw [← Option.some.inj hrx]
        exact row_at' hxl
      generalize xs.getD (fn + 2) 0 = x at *
      have hx := nx_small h3 (by omega)
      have HCN : Hid (Chn nn xs (nx x) (s.drop (k + 1))) := by show Chn _ _ _ _; rw [g2, hx]; exact h5
      have HG1 : Hid ((s.take (k + 1)).map (Value.int .i64) = (s.take k).map (.int .i64) ++ [.int .i64 (fn : Int)]) := by show _ = _; rw [g1]; simp
      have HCX := Lib.hid hcx
      have i1 : (k : Int) ≤ (n : Int) := by omega
      have i2 : 0 ≤ (fn : Int) + 2 := by omega
      have i3 : (fn : Int) + 2 < (n : Int) := by omega
      have HLC : Hid (∀ w, Calls Try.prog 40 #[.int .i64 (fn : Int)] w fun e w' => e = .returned (.int .i64 ((fn : Int) + 2)) ∧ w = w') := fun w => by
        have h := HLK.out.calls (fn : Int) w (by omega) (by omega)
        rw [show lk2 (fn : Int) = (fn : Int) + 2 by unfold lk2; omega] at h
        exact h
      have HNX : Hid (IntKind.i64.wrap (IntKind.i64.wrap x - 1) = nx x) := rfl
      have hbt : wr.heap[w.heap.size]? = some (.cells #[.pointer (some ⟨a, 0, none⟩), .int .i64 (qd : Int), .func (.func 40) #[] #[]] 29 (0, 0)) := (HB.out.block _ (by omega)).trans HB2.out
      have HAF : Hid (∀ (v' : Value) (w5 : World), w5.ownsRow w2.heap.size 3 1 v' (k + 1) ((s.take k).map (.int .i64) ++ [.int .i64 (fn : Int)]) → (wr.alloc (.cells #[.int .i64 (fn : Int)] 3)).grownBy w5 (Value.slice A k cp).ownBlock → w5.cell? ⟨w.heap.size, 2, none⟩ = some (.func (.func 40) #[] #[]) ∧ w5.cell? ⟨w.heap.size + 1, fn + 2, none⟩ = some (.int .u64 x) ∧ Hid (Below w2.heap.size w2 w5) ∧ ∃ A5 c5, v' = .slice A5 (k + 1) c5 ∧ Hid (w5.ownsRow w2.heap.size 3 1 (.slice A5 (k + 1) c5) (k + 1) ((s.take (k + 1)).map (.int .i64)))) := by
        intro v' w5 hown hgrow
        have hm5 := app_below HO.out hsz hgrow
        have hb5 := HB.out.trans hm5
        have hbt5 : w5.heap[w.heap.size]? = some (.cells #[.pointer (some ⟨a, 0, none⟩), .int .i64 (qd : Int), .func (.func 40) #[] #[]] 29 (0, 0)) := (hb5.block _ (by omega)).trans HB2.out
        have hbr := (hb5.block _ (show w.heap.size + 1 < w2.heap.size by omega)).trans HR2.out
        refine ⟨by rw [cell_of_row _ _ _ _ _ _ hbt5]; rfl, by rw [cell_of_row _ _ _ _ _ _ hbr]; exact HCX.out, hb5, ?_⟩
        obtain ⟨g, cap, hv', _⟩ := hown.form (by omega)
        refine ⟨_, _, hv', ?_⟩
        show World.ownsRow _ _ _ _ _ _ _
        rw [HG1.out, ← hv']
        exact hown
      clear hd h1 h2 h3 h4 h5 e1 g1 g2 hnl hxl hrx hcx hx HC hbt HLK HG1
      go_wp2_with (at_builtin; (refine wpList_append_own _ rfl (.tmp 34) (.tmp 36) 23 rfl w2.heap.size 3 iu (.int .i64 0) 1 8 Try.underlying23 HI.out.1 HI.out.2.1 HI.out.2.2.1 HI.out.2.2.2 rfl (by decide) _ k ((s.take k).map (.int .i64)) (by simp [Act.eval, Act.put]) (World.ownsRow.alloc HO.out _) ⟨wr.heap.size, 0, none⟩ 1 1 [.int .i64 (fn : Int)] (by simp [Act.eval, Act.put]) rfl (lit_news _ _) (by simp [Value.oneCell']) (by unfold maxLen; omega) (by omega) (by simp; omega) ?_; intro v' w5 hown hgrow _; obtain ⟨c2, cx, HB5, A5, c5, rfl, HO5⟩ := HAF.out v' w5 hown hgrow; clear hown hgrow))
      refine (HLC.out _).mono ?_
      rintro e w6 ⟨rfl, rfl⟩
      clear HLC HAF
      go_wp2_with fail
      go_roundw
      case rel => exact ⟨k + 1, nx x, A5, c5, rfl, by first | (rw [← HNX.out]; simp; done) | (unfold nx; simp only [IntKind.wrap_i64, wrap64]; done) | (unfold nx; simp [wrap64, IntKind.wrap]; done), by omega, HCN, HO5, HB5⟩
      case measure => simp; omega
end Go.Proofs.Ytndpkonihcebeaa.Kod.Nine
