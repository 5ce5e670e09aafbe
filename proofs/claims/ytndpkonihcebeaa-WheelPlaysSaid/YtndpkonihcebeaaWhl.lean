/- Package wheel: the wheel of the law, its closures. -/
import Derived.Test.YtndpkonihcebeaaSeq4
import Derived.Test.YtndpkonihcebeaaDig
import Derived.Test.YtndpkonihcebeaaBits
import Derived.Deep.DeepCutAuto
namespace Go.Proofs.Ytndpkonihcebeaa.Whl
open Go.RowKit Go.Proofs.Ytndpkonihcebeaa Go.Proofs.Ytndpkonihcebeaa.Cell Go.Proofs.Ytndpkonihcebeaa.Seq
set_option linter.unusedVariables false
set_option linter.unusedSimpArgs false

/-- The law's wheel, as a value. -/
abbrev WV (a bl bs L B : Nat) : Array Value := #[.pointer (some ⟨a, 0, none⟩), .int .i64 (L : Int), .int .i64 (B : Int), .int .i64 0, .func (.func 59) #[] #[], .func (.func 60) #[] #[.pointer (some ⟨bl, 0, none⟩), .pointer (some ⟨bs, 0, none⟩)], .func (.func 61) #[] #[.pointer (some ⟨bl, 0, none⟩), .pointer (some ⟨bs, 0, none⟩)]]
abbrev OI (x : Int) : Obj := .cells #[.int .i64 x] 3 (0, 0)
/-- The two boxes that the closures look into. -/
structure Env (w : World) (Z : Zone) (bl bs L S : Nat) : Prop where
  l : Blk w Z bl (OI L)
  s : Blk w Z bs (OI S)
  l1 : 1 ≤ L
  l5 : L ≤ 8
  s1 : 2 ≤ S
  s2 : S ≤ 64
theorem Env.later {w w' : World} {Z Z' : Zone} {bl bs L S : Nat} (h : Env w Z bl bs L S) (e : Ext w Z w' Z') : Env w' Z' bl bs L S := ⟨h.l.later e, h.s.later e, h.l1, h.l5, h.s1, h.s2⟩
theorem wv_cells {w : World} {Z : Zone} {bw a bl bs L B : Nat} (h : Blk w Z bw (.cells (WV a bl bs L B) 71 (0, 0))) :
    w.cell? ⟨bw, 0, none⟩ = some (.pointer (some ⟨a, 0, none⟩)) ∧ w.cell? ⟨bw, 1, none⟩ = some (.int .i64 (L : Int)) ∧ w.cell? ⟨bw, 2, none⟩ = some (.int .i64 (B : Int)) ∧ w.cell? ⟨bw, 3, none⟩ = some (.int .i64 0) ∧
      w.cell? ⟨bw, 4, none⟩ = some (.func (.func 59) #[] #[]) ∧ w.cell? ⟨bw, 5, none⟩ = some (.func (.func 60) #[] #[.pointer (some ⟨bl, 0, none⟩), .pointer (some ⟨bs, 0, none⟩)]) ∧ w.cell? ⟨bw, 6, none⟩ = some (.func (.func 61) #[] #[.pointer (some ⟨bl, 0, none⟩), .pointer (some ⟨bs, 0, none⟩)]) := by
  refine ⟨?_, ?_, ?_, ?_, ?_, ?_, ?_⟩ <;> (rw [cell_of_row _ _ _ _ _ _ h.obj]; rfl)
set_option maxHeartbeats 400000 in
theorem Map_w (k : Nat) (hk : k < 1000) (w : World) : Calls Try.prog 59 #[.int .i64 (k : Int)] w fun e w' => e = .returned (.int .i64 ((1 + k : Nat) : Int)) ∧ w = w' := by
  go_enter Try.func59, Try.ntmps59
  go_wp2
  go_ret
  exact ⟨by push_cast; rfl, rfl⟩
set_option maxHeartbeats 1000000 in
theorem Slot_w {w : World} {Z : Zone} {bl bs L S : Nat} (h : Env w Z bl bs L S) (k i : Nat) (hk : k < 64) (hi : i < 64) : Calls Try.prog 60 #[.int .i64 (k : Int), .int .i64 (i : Int), .pointer (some ⟨bl, 0, none⟩), .pointer (some ⟨bs, 0, none⟩)] w fun e w' => e = .returned (.int .i64 ((1 + L + k * S + i : Nat) : Int)) ∧ w = w' := by
  have c1 := h.l.cell
  have c2 := h.s.cell
  have h5 := h.l5
  have h1 : ((k * S : Nat) : Int) ≤ 4096 := by
    have : k * S ≤ 64 * 64 := Nat.mul_le_mul (by omega) h.s2
    omega
  have h0 : 0 ≤ ((k * S : Nat) : Int) := by omega
  rw [Int.natCast_mul] at h0 h1
  clear h
  go_enter Try.func60, Try.ntmps60
  go_wp2
  go_ret
  exact ⟨by push_cast; rfl, rfl⟩
set_option maxHeartbeats 1000000 in
theorem Link_w {w : World} {Z : Zone} {bl bs L S : Nat} (h : Env w Z bl bs L S) (t : Nat) (ht : t < 1000) : Calls Try.prog 61 #[.int .i64 (t : Int), .pointer (some ⟨bl, 0, none⟩), .pointer (some ⟨bs, 0, none⟩)] w fun e w' => e = .returned (.int .i64 ((1 + L * (1 + S) + t : Nat) : Int)) ∧ w = w' := by
  have c1 := h.l.cell
  have c2 := h.s.cell
  have h2 := h.s2
  have h1 : ((L * (1 + S) : Nat) : Int) ≤ 520 := by
    have : L * (1 + S) ≤ 8 * 65 := Nat.mul_le_mul h.l5 (by omega)
    omega
  have h0 : 0 ≤ ((L * (1 + S) : Nat) : Int) := by omega
  push_cast at h0 h1
  clear h
  go_enter Try.func61, Try.ntmps61
  go_wp2
  go_ret
  exact ⟨by push_cast; rfl, rfl⟩
/-- The cell of the list of a place. -/
def at_ (L S lv sl : Nat) : Nat := if L ≤ lv then 0 else 1 + L + lv * S + sl
set_option maxHeartbeats 1000000 in
theorem list_w {w : World} {Z : Zone} {a b bl bs L S B : Nat} (hz : ZOk a b w Z) (h : Env w Z bl bs L S) (lv sl : Nat) (h1 : lv ≤ L) (h2 : sl < S) : Calls Try.prog 76 #[.agg (WV a bl bs L B), .int .i64 (lv : Int), .int .i64 (sl : Int)] w fun e w' => e = .returned (.int .i64 (at_ L S lv sl : Int)) ∧ Made w w' := by
  obtain ⟨wb, hwb⟩ : ∃ wb, wb = w.alloc (.cells (WV a bl bs L B) 71) := ⟨_, rfl⟩
  have hm : Made w wb := by rw [hwb]; exact (Made.refl _).alloc (Nat.le_refl _) _
  have hq : Blk wb Z w.heap.size (.cells (WV a bl bs L B) 71 (0, 0)) := by rw [hwb]; exact Blk.new hz _
  obtain ⟨c0, c1, c2, c3, c4, c5, c6⟩ := wv_cells hq
  have HM := Lib.hid hm
  have HW := Lib.hid hwb
  have HS := Lib.hid (Slot_w (h.later (Ext.of_made hm)) lv sl (by have := h.l5; omega) (by have := h.s2; omega))
  have h5 := h.l5
  clear hq hm c0 c2 c4 c6 h
  by_cases hlv : L ≤ lv
  · have hl : (L : Int) ≤ (lv : Int) := by omega
    have HA : Hid (at_ L S lv sl = 0) := by show _ = _; unfold at_; rw [if_pos hlv]
    rw [hwb] at c1 c3
    clear hwb c5 HS
    go_enter Try.func76, Try.ntmps76
    go_wp2_with fail
    go_ret
    exact ⟨by rw [HA.out]; rfl, by rw [← HW.out]; exact HM.out⟩
  · have hl : ¬ (L : Int) ≤ (lv : Int) := by omega
    have HA : Hid (at_ L S lv sl = 1 + L + lv * S + sl) := by show _ = _; unfold at_; rw [if_neg hlv]
    rw [hwb] at c1 c5
    clear hwb c3
    go_enter Try.func76, Try.ntmps76
    go_wp2_with fail
    rw [← HW.out]
    refine HS.out.mono ?_
    rintro e w' ⟨rfl, rfl⟩
    go_wp2_with fail
    go_ret
    exact ⟨by rw [HA.out]; rfl, HM.out⟩
end Go.Proofs.Ytndpkonihcebeaa.Whl
