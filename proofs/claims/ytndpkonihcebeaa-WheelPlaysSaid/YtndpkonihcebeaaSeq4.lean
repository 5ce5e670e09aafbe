/- Work that is cut into steps, one task alone: knelllaw10.done. -/
import Derived.Test.YtndpkonihcebeaaSeq3
namespace Go.Proofs.Ytndpkonihcebeaa.Seq
open Go.RowKit Go.Proofs.Ytndpkonihcebeaa Go.Proofs.Ytndpkonihcebeaa.Cell
set_option linter.unusedVariables false
set_option linter.unusedSimpArgs false
variable {a b : Nat}

theorem Count_s {w : World} {c : Int} (h : Cnt a b w c) : Calls Try.prog 26 #[.pointer (some ⟨a, 0, none⟩)] w fun e w' => e = .returned (.int .i64 c) ∧ w = w' := by
  obtain ⟨xs, hx⟩ := h
  exact Count_c hx
theorem Cnt.range {w : World} {c : Int} (h : Cnt a b w c) : 0 ≤ c ∧ c < 4611686018427387904 := by
  obtain ⟨xs, hx⟩ := h
  exact ⟨hx.c0, hx.c1⟩
/-- A world in which the task of this code has been made. -/
theorem Does.live {n : Nat} {v : Value} {c : Int} {Q : World → Zone → Int → Prop} {w w1 : World} {Z : Zone} (hd : Does a b n v w Z c Q) (hz : ZOk a b w Z) (hc : Cnt a b w c) (hm : Made w w1) :
    Live a b n v c Q w1.heap.size 0 (w1.alloc (.cells #[v, .int .i64 0] 108)) ⟨Z.M, fun k => Z.T k ∨ k = w1.heap.size⟩ ∧ Ext w Z (w1.alloc (.cells #[v, .int .i64 0] 108)) ⟨Z.M, fun k => Z.T k ∨ k = w1.heap.size⟩ := by
  have hm2 : Made w (w1.alloc (.cells #[v, .int .i64 0] 108)) := hm.alloc hm.size _
  have hs := hm.size
  have hb : Btw w Z (w1.alloc (.cells #[v, .int .i64 0] 108)) ⟨Z.M, fun k => Z.T k ∨ k = w1.heap.size⟩ :=
    ⟨⟨hm2.os, hm2.tape, hm2.output, hm2.size, fun k hk h1 h2 => ⟨h1, by rintro (h | h); exact h2 h; omega, hm2.block k hk⟩⟩, rfl, fun k hk => hm2.block k (hz.ml k hk)⟩
  refine ⟨⟨⟨w, Z, hd, hb, hz⟩, ⟨hz.ma, hz.mb, fun k hk => ?_, fun k hk => ?_, fun k hk => ?_⟩, hc.btw hz hb, Or.inr rfl, heap_alloc_new _ _⟩, hb.ext⟩
  · have := hz.ml k hk; rw [World.size_alloc]; omega
  · rw [World.size_alloc]
    rcases hk with h | h
    · have := hz.tl k h; omega
    · omega
  · rintro (h | h)
    · exact hz.ap k hk h
    · have := hz.ml k hk; omega
theorem Does.nil_holds {n : Nat} {w : World} {Z : Zone} {c : Int} {Q : World → Zone → Int → Prop} (h : Does a b n .nilFunc w Z c Q) : Q w Z c := by
  cases n with
  | zero => exact h.2
  | succ n => rcases h with h | ⟨f, cap, hv, _⟩
              · exact h.2
              · cases hv
theorem Blk.task {w w1 : World} {Z : Zone} {k : Nat} {o : Obj} (h : Blk w1 Z k o) (hw : w.heap.size < w1.heap.size) (v : Value) : Blk (w1.alloc (.cells #[v, .int .i64 0] 108)) ⟨Z.M, fun k => Z.T k ∨ k = w1.heap.size⟩ k o :=
  ⟨by rw [World.size_alloc]; have := h.lt; omega, h.m, by rintro (g | g); exact h.t g; have := h.lt; omega, (heap_alloc_old _ _ h.lt).trans h.obj⟩
set_option maxRecDepth 100000 in
set_option maxHeartbeats 2000000 in
theorem done_c {n : Nat} {v : Value} {c : Int} {Q : World → Zone → Int → Prop} {w : World} {Z : Zone} (hd : Does a b n v w Z c Q) (hn : n < 2000) (hz : ZOk a b w Z) (hc : Cnt a b w c) (L B O : Int) (fm fs fl : FuncId) (cm cs cl : Array Value) :
    Calls Try.prog 62 #[.agg #[.pointer (some ⟨a, 0, none⟩), .int .i64 L, .int .i64 B, .int .i64 O, .func (.func fm) #[] cm, .func (.func fs) #[] cs, .func (.func fl) #[] cl], v] w fun e w' =>
      e = .returned (.bool true) ∧ ∃ w0 Z0 c' Z', Q w0 Z0 c' ∧ Btw w0 Z0 w' Z' ∧ ZOk a b w0 Z0 ∧ Ext w Z w' Z' := by
  obtain ⟨wb, hwb⟩ : ∃ wb, wb = w.alloc (.cells #[.pointer (some ⟨a, 0, none⟩), .int .i64 L, .int .i64 B, .int .i64 O, .func (.func fm) #[] cm, .func (.func fs) #[] cs, .func (.func fl) #[] cl] 71) := ⟨_, rfl⟩
  have hm0 : Made w wb := by rw [hwb]; exact (Made.refl _).alloc (Nat.le_refl _) _
  have hsz : wb.heap.size = w.heap.size + 1 := by rw [hwb, World.size_alloc]
  have hq0 : Blk wb Z w.heap.size (.cells #[.pointer (some ⟨a, 0, none⟩), .int .i64 L, .int .i64 B, .int .i64 O, .func (.func fm) #[] cm, .func (.func fs) #[] cs, .func (.func fl) #[] cl] 71 (0, 0)) := by rw [hwb]; exact Blk.new hz _
  obtain ⟨hl, hx⟩ := hd.live hz hc hm0
  have HS : v = .nilFunc ∨ ∃ f cap, v = .func (.func f) #[] cap := by
    rcases hd.shape with h | ⟨f, cap, h, _⟩
    · exact Or.inl h
    · exact Or.inr ⟨f, cap, h⟩
  have HNW : Hid (Calls Try.prog 14 #[v] wb fun e w' => e = .returned (.pointer (some ⟨wb.heap.size, 0, none⟩)) ∧ wb.alloc (.cells #[v, .int .i64 0] 108) = w') := New_c HS
  have HQ := Lib.hid (hq0.task (w := w) (by omega) v)
  have HL := Lib.hid hl
  have HX := Lib.hid hx
  have HW := Lib.hid hwb
  clear hd hz hc hm0 hq0 hl hx hsz hwb
  obtain ⟨wt, hwt⟩ : ∃ wt, wt = wb.alloc (.cells #[v, .int .i64 0] 108) := ⟨_, rfl⟩
  obtain ⟨t, ht⟩ : ∃ t, t = wb.heap.size := ⟨_, rfl⟩
  obtain ⟨Zt, hZt⟩ : ∃ Zt, Zt = (⟨Z.M, fun k => Z.T k ∨ k = wb.heap.size⟩ : Zone) := ⟨_, rfl⟩
  rw [← hwt] at HQ HL HX HNW
  rw [← hZt] at HQ HL HX
  rw [← ht] at HL HNW
  clear hwt ht hZt
  have hsv : (∃ f cap, v = .func (.func f) #[] cap) ∨ v = .nilFunc := HS.symm
  clear HS
  rcases hsv with ⟨f0, cap0, rfl⟩ | rfl
  all_goals
    go_enter Try.func62, Try.ntmps62
    go_wp2_with fail
    rw [← HW.out]
    refine HNW.out.mono ?_
    rintro e w1 ⟨rfl, rfl⟩
    clear HNW HW
    go_wp2_with fail
    go_loopw [11] (fun iv wr => ∃ k m vv cc s Z1, k + m = n ∧ iv = .int .i64 (k : Nat) ∧ Hid (Live a b m vv cc Q t s wr Z1) ∧ s ≤ k ∧ Hid (Ext w Z wr Z1) ∧ Hid (Blk wr Z1 w.heap.size (.cells #[.pointer (some ⟨a, 0, none⟩), .int .i64 L, .int .i64 B, .int .i64 O, .func (.func fm) #[] cm, .func (.func fs) #[] cs, .func (.func fl) #[] cl] 71 (0, 0)))) (fun iv _ => (2000 - intOf iv).toNat)
    case atStart => exact ⟨0, n, _, c, 0, Zt, by omega, rfl, HL, by omega, HX, HQ⟩
    case round =>
      clear HL HX HQ
      obtain ⟨k, m, vv, cc, s, Z1, hkm, rfl, HLr, hsk, HXr, HQr⟩ := hrel
      have k0 : (k : Int) < 2000 := by omega
      have cw : wr.cell? ⟨w.heap.size, 0, none⟩ = some (.pointer (some ⟨a, 0, none⟩)) := by rw [cell_of_row _ _ _ _ _ _ HQr.out.obj]; rfl
      have hcr := HLr.out.cnt.range
      have hc0 := hcr.1
      have hc1 := hcr.2
      have HCN := Lib.hid (Count_s HLr.out.cnt)
      have HST := Lib.hid (Step_s HLr.out (by omega))
      clear hcr
      go_wp2_with fail
      refine HCN.out.mono ?_
      rintro e w2 ⟨rfl, rfl⟩
      go_wp2_with fail
      refine HST.out.mono ?_
      rintro e w3 ⟨v3, c3, s3, Z3, rfl, hl3, hcc, hs3, hx3⟩
      have HL3 := Lib.hid hl3
      have HX3 := Lib.hid (HXr.out.trans hx3)
      have HQ3 := Lib.hid (HQr.out.later hx3)
      have cw3 : w3.cell? ⟨w.heap.size, 0, none⟩ = some (.pointer (some ⟨a, 0, none⟩)) := by rw [cell_of_row _ _ _ _ _ _ HQ3.out.obj]; rfl
      have HCN3 := Lib.hid (Count_s hl3.cnt)
      have hc3 := hl3.cnt.range
      obtain ⟨w0, Z0, hd0, hb0, hz0⟩ := hl3.does
      have hsh := hd0.shape
      have hgt : ¬ (cc + 1 < c3) := by omega
      have hle : c3 ≤ cc + 1 := by omega
      have h30 := hc3.1
      have h31 := hc3.2
      clear HLr HXr HQr HCN HST hl3 hx3 cw hcc hc3
      rcases hsh with rfl | ⟨f3, cap3, rfl, _⟩
      · have HD := Lib.hid hd0.nil_holds
        have HB := Lib.hid hb0
        have HZ := Lib.hid hz0
        have hnil : isNil .nilFunc = true := rfl
        rw [hnil]
        clear hd0 hb0 hz0 hnil
        go_wp2_with fail
        refine HCN3.out.mono ?_
        rintro e w4 ⟨rfl, rfl⟩
        go_wp2_with fail
        go_ret
        exact ⟨rfl, w0, Z0, c3, Z3, HD.out, HB.out, HZ.out, HX3.out⟩
      · have hnil : isNil (.func (.func f3) #[] cap3) = false := rfl
        rw [hnil]
        have hm1 : ∃ m', m = m' + 1 := by
          cases m with
          | zero => exact absurd hd0.1 (by simp)
          | succ m' => exact ⟨m', rfl⟩
        obtain ⟨m', rfl⟩ := hm1
        clear hd0 hb0 hz0 hnil
        go_wp2_with fail
        refine HCN3.out.mono ?_
        rintro e w4 ⟨rfl, rfl⟩
        go_wp2_with fail
        go_roundw
        case rel => exact ⟨k + 1, m', _, c3, s3, Z3, by omega, by go_num, HL3, by omega, HX3, HQ3⟩
        case measure => simp [intOf]; omega
end Go.Proofs.Ytndpkonihcebeaa.Seq
