/- The document's answer for layer 9 (knellref09.Put), walked. -/
import Derived.Test.YtndpkonihcebeaaAgain9
namespace Go.Proofs.Ytndpkonihcebeaa.Kod.Nine
open Go.RowKit Go.Proofs.Ytndpkonihcebeaa Go.Proofs.Ytndpkonihcebeaa.Cell Go.Proofs.Ytndpkonihcebeaa.Wd
set_option linter.unusedVariables false
set_option linter.unusedSimpArgs false

theorem run_cut_from9 (A : Option Addr) {n c k : Nat} (hk : k ≤ n) (w : World) : (Instr.sliceAt 23 (.slice A n c) (some (.int .i64 (k : Int))) none none).run Try.prog w = .ok (.slice (if c = k then A else A.map (·.add k)) (n - k) (c - k)) w := by
  obtain ⟨inf, hi, hs⟩ := Option.map_eq_some_iff.1 ints_size
  have h1 : (sizeOf 3).run Try.prog w = .ok 1 w := by simp [sizeOf, typeInfo, hi, hs]
  have h2 := run_sliceBound (P := Try.prog) w .i64 k n .sliceB (by omega) (by omega)
  simp [Instr.sliceAt, run_underlying ints_under, Instr.slice, Instr.sliceBounds, h1, h2]
theorem ints_one9 (xs : List Int) : ∀ u ∈ xs.map (Value.int .i64), u.oneCell' = true := fun u hu => by
  obtain ⟨x, _, rfl⟩ := List.mem_map.1 hu
  rfl
/-- Who is dead, as a row. -/
def deads (dead : Int → Bool) (nn : Nat) : List Value := (List.range nn).map fun (k : Nat) => Value.bool (dead (k : Int))
theorem deads_at {dead : Int → Bool} {nn k : Nat} (h : k < nn) : (deads dead nn)[k]? = some (.bool (dead (k : Int))) := by
  unfold deads
  rw [List.getElem?_map, List.getElem?_range h]
  rfl
/-- A slice as handed in, or a new one. -/
def Or9 (w wr : World) (s0 s : Value) (n : Nat) (xs0 xs : List Int) : Prop := (s = s0 ∧ xs = xs0) ∨ wr.ownsRow w.heap.size 3 1 s n (xs.map (Value.int .i64))
structure PutI (w : World) (dead : Int → Bool) (gd : Nat) (bl fl : List Int) (f0 : Value) (A : Option Addr) (n c : Nat) (b : List Int) (A' : Option Addr) (n' c' : Nat) (f : List Int) (wr : World) : Prop where
  rb : Reads wr A n (b.map (Value.int .i64))
  rf : Reads wr A' n' (f.map (Value.int .i64))
  fr : Or9 w wr f0 (.slice A' n' c') n' fl f
  hp : helpB dead b f = helpB dead bl fl
  mem : ∀ i ∈ b, 0 ≤ i ∧ i < 20
  cap : n ≤ c
  few : b.length + f.length ≤ 1000
  bel : Made w wr
  dd : Reads wr (some ⟨gd, 0, none⟩) 20 (deads dead 20)
/-- A slice's length. -/
def len9 : Value → Nat
  | .slice _ n _ => n
  | _ => 0
theorem row_later9 {w w' : World} {B n : Nat} {v : Value} {xs : List Value} (h : w.ownsRow B 3 1 v n xs) (hs : ∀ k : Nat, v.ownBlock = some k → w'.heap[k]? = w.heap[k]?) : w'.ownsRow B 3 1 v n xs := by
  obtain ⟨h0, h1⟩ := h
  refine ⟨h0, ?_⟩
  rcases h1 with h1 | ⟨g, cap, cur, rfl, hb, hg, hr⟩
  · exact Or.inl h1
  · exact Or.inr ⟨g, cap, cur, rfl, hb, (hs g rfl).trans hg, hr⟩
theorem Or9.later {w wr wr' : World} {s0 s : Value} {n : Nat} {xs0 xs : List Int} (h : Or9 w wr s0 s n xs0 xs) (hm : Made wr wr') : Or9 w wr' s0 s n xs0 xs := by
  rcases h with h | h
  · exact Or.inl h
  · exact Or.inr (row_later9 h fun k hk => hm.block k (h.lt k hk).2)
theorem add_zero (d : Addr) : d.add 0 = d := by unfold Addr.add; split <;> simp_all
theorem PutI.cut {w wr w5 : World} {dead : Int → Bool} {gd : Nat} {bl fl b f : List Int} {i : Int} {f0 : Value} {A A2 A' A5 : Option Addr} {n c n' c' c5 : Nat} (h : PutI w dead gd bl fl f0 A (n + 1) c (i :: b) A' n' c' f wr) (hd : dead i = true) (hA : n = 0 ∨ A2 = A.map (·.add 1))
    (hown : w5.ownsRow wr.heap.size 3 1 (.slice A5 (1 + n') c5) (1 + n') ([Value.int .i64 i] ++ f.map (Value.int .i64))) (hgrow : (wr.alloc (.cells #[.int .i64 i] 3)).grownBy w5 (some wr.heap.size)) :
    PutI w dead gd bl fl f0 A2 n (c - 1) b A5 (1 + n') c5 (i :: f) w5 := by
  have hm1 : Made wr (wr.alloc (.cells #[.int .i64 i] 3)) := (Made.refl _).alloc (Nat.le_refl _) _
  have hm : Made wr w5 := hm1.grown hgrow (by simp) (fun j ej => by
    obtain rfl := Option.some.inj ej
    exact Nat.le_refl _)
  have e1 : [Value.int .i64 i] ++ f.map (Value.int .i64) = (i :: f).map (Value.int .i64) := rfl
  rw [e1] at hown
  refine ⟨?_, reads_own hown, Or.inr (row_mono hown h.bel.size), ?_, fun j hj => h.mem j (List.mem_cons_of_mem _ hj), by have := h.cap; omega, by have := h.few; simp at this ⊢; omega, Made.trans h.bel hm, reads_made h.dd hm⟩
  · have h1 := reads_made h.rb hm
    refine ⟨by have := h1.1; simpa using this, fun j u hu => ?_⟩
    obtain ⟨d, rfl, hc⟩ := h1.2 (j + 1) u (by simpa using hu)
    rcases hA with rfl | rfl
    · have := h1.1
      simp at this
      subst this
      simp at hu
    · exact ⟨d.add 1, rfl, by rw [Addr.add_add, Nat.add_comm 1 j]; exact hc⟩
  · rw [← h.hp, helpB_dead hd]
set_option maxRecDepth 100000 in
set_option maxHeartbeats 2000000 in
theorem Put9_c (dead : Int → Bool) (gd : Nat) (bl fl : List Int) (A Af : Option Addr) (n nf c cf : Nat) (t : Int) (w : World) (hb : Reads w A n (bl.map (Value.int .i64))) (hf : Reads w Af nf (fl.map (Value.int .i64))) (hd : Reads w (some ⟨gd, 0, none⟩) 20 (deads dead 20)) (hmem : ∀ i ∈ bl, 0 ≤ i ∧ i < 20) (hcap : n ≤ c) (hfew : bl.length + fl.length ≤ 1000) :
    Calls Try.prog 21 #[.slice A n c, .slice Af nf cf, .int .i64 t, .slice (some ⟨gd, 0, none⟩) 20 20] w fun e w' => ∃ A1 n1 c1 A2 n2 c2, e = .returned (.tuple #[.slice A1 n1 c1, .slice A2 n2 c2]) ∧
      w'.ownsRow w.heap.size 3 1 (.slice A1 n1 c1) n1 ((putR dead (bl, fl) t).1.map (Value.int .i64)) ∧ Or9 w w' (.slice Af nf cf) (.slice A2 n2 c2) n2 fl (putR dead (bl, fl) t).2 ∧ n2 = (putR dead (bl, fl) t).2.length ∧ Made w w' := by
  have HE := Lib.hid elem_int9
  have HI0 : Hid (PutI w dead gd bl fl (.slice Af nf cf) A n c bl Af nf cf fl w) := ⟨hb, hf, Or.inl ⟨rfl, rfl⟩, rfl, hmem, hcap, hfew, Made.refl _, hd⟩
  clear hb hf hd hmem hcap hfew
  have HEND : Hid (∀ (A : Option Addr) (n c : Nat) (b : List Int) (A' : Option Addr) (n' c' : Nat) (f : List Int) (wr w5 : World) (A5 : Option Addr) (c5 : Nat), PutI w dead gd bl fl (.slice Af nf cf) A n c b A' n' c' f wr → helpB dead b f = (b, f) → w5.ownsRow wr.heap.size 3 1 (.slice A5 (1 + n) c5) (1 + n) ([Value.int .i64 t] ++ b.map (Value.int .i64)) → (wr.alloc (.cells #[.int .i64 t] 3)).grownBy w5 (some wr.heap.size) →
      ∃ A1 n1 c1 A2 n2 c2, Ending.returned (.tuple #[.slice A5 (1 + n) c5, .slice A' n' c']) = .returned (.tuple #[.slice A1 n1 c1, .slice A2 n2 c2]) ∧ w5.ownsRow w.heap.size 3 1 (.slice A1 n1 c1) n1 ((putR dead (bl, fl) t).1.map (Value.int .i64)) ∧ Or9 w w5 (.slice Af nf cf) (.slice A2 n2 c2) n2 fl (putR dead (bl, fl) t).2 ∧ n2 = (putR dead (bl, fl) t).2.length ∧ Made w w5) := by
    intro A n c b A' n' c' f wr w5 A5 c5 h hh hown hgrow
    have hm1 : Made wr (wr.alloc (.cells #[.int .i64 t] 3)) := (Made.refl _).alloc (Nat.le_refl _) _
    have hm : Made wr w5 := hm1.grown hgrow (by simp) (fun j ej => by
      obtain rfl := Option.some.inj ej
      exact Nat.le_refl _)
    have e1 : putR dead (bl, fl) t = (t :: b, f) := by
      unfold putR
      simp only
      rw [← h.hp, hh]
    rw [e1]
    exact ⟨_, _, _, _, _, _, rfl, row_mono hown h.bel.size, h.fr.later hm, by have := h.rf.1; simpa using this.symm, Made.trans h.bel hm⟩
  go_enter Try.func21, Try.ntmps21
  go_wp2_with fail
  go_loopw [0, 1] (fun v0 v1 wr => ∃ (A : Option Addr) (n c : Nat) (b : List Int) (A' : Option Addr) (n' c' : Nat) (f : List Int), v0 = .slice A n c ∧ v1 = .slice A' n' c' ∧ Hid (PutI w dead gd bl fl (.slice Af nf cf) A n c b A' n' c' f wr)) (fun v0 _ _ => len9 v0)
  case atStart => exact ⟨A, n, c, bl, Af, nf, cf, fl, rfl, rfl, HI0⟩
  case round =>
    clear HI0
    obtain ⟨A, n, c, b, A', n', c', f, rfl, rfl, HI⟩ := hrel
    cases b with
    | nil =>
      obtain rfl : n = 0 := by have := HI.out.rb.1; simpa using this.symm
      have HR := Lib.hid HI.out.rb
      go_wp2_with (at_builtin; (refine wpList_app _ rfl (.tmp 30) (.tmp 31) 23 rfl wr.heap.size 3 (.int .i64 0) 8 HE.out (.slice (some ⟨wr.heap.size, 0, none⟩) 1 1) 1 [.int .i64 t] (by simp [Act.eval, Act.put]) (World.ownsRow_lit (e := 3) (base := wr.heap.size) (size := 1) wr #[.int .i64 t] 1 (Nat.le_refl _) (by unfold maxLen; omega) (by simp)) A 0 c ([].map (Value.int .i64)) (by simp [Act.eval, Act.put]) (reads_later HR.out) (ints_one9 _) (by unfold maxLen; omega) (by omega) (by simp only [World.size_alloc]; omega) ?_; intro A5 c5 w5 hown hgrow _; have HF := Lib.hid (HEND.out _ _ _ _ _ _ _ _ _ _ _ _ HI.out rfl hown hgrow); clear hown hgrow))
      go_ret2
      exact HF.out
    | cons i b =>
      obtain ⟨n, rfl⟩ : ∃ m, n = m + 1 := ⟨b.length, by have := HI.out.rb.1; simpa using this.symm⟩
      obtain ⟨d, rfl, hc⟩ := HI.out.rb.2 0 (.int .i64 i) rfl
      have hc0 : wr.cell? d = some (.int .i64 i) := by rw [← hc, add_zero]
      have hi := HI.out.mem i List.mem_cons_self
      obtain ⟨k, rfl⟩ : ∃ k : Nat, i = (k : Int) := ⟨i.toNat, by omega⟩
      obtain ⟨d2, hd2, hcd⟩ := HI.out.dd.2 k _ (deads_at (by omega))
      obtain rfl := Option.some.inj hd2
      have e : (⟨gd, 0, none⟩ : Addr).add k = ⟨gd, k, none⟩ := by unfold Addr.add; split <;> simp_all
      rw [e] at hcd
      clear e hd2
      have HR := Lib.hid HI.out.rb
      have HRF := Lib.hid HI.out.rf
      have hfew := HI.out.few
      have hn1 := HI.out.rb.1
      have hn2 := HI.out.rf.1
      simp at hn1 hn2
      simp only [List.length_cons] at hfew
      have n0 : (0 : Int) < (n : Int) + 1 := by omega
      have k0 : (0 : Int) ≤ (k : Int) := by omega
      have k1 : (k : Int) < 20 := by omega
      cases hdd : dead (k : Int) with
      | true =>
        rw [hdd] at hcd
        have hsl := fun w1 => run_cut_from9 (some d) (n := n + 1) (c := c) (k := 1) (by omega) w1
        simp only [Option.map_some, Nat.add_sub_cancel] at hsl
        obtain ⟨A9, hA9⟩ : ∃ A9, A9 = (if c = 1 then some d else some (d.add 1)) := ⟨_, rfl⟩
        have hsl' : ∀ w1, (Instr.sliceAt 23 (.slice (some d) (n + 1) c) (some (.int .i64 1)) none none).run Try.prog w1 = .ok (.slice A9 n (c - 1)) w1 := fun w1 => by rw [hA9]; exact hsl w1
        have HCUT : Hid (∀ (A5 : Option Addr) (c5 : Nat) (w5 : World), w5.ownsRow wr.heap.size 3 1 (.slice A5 (1 + n') c5) (1 + n') ([Value.int .i64 (k : Int)] ++ f.map (Value.int .i64)) → (wr.alloc (.cells #[.int .i64 (k : Int)] 3)).grownBy w5 (some wr.heap.size) → PutI w dead gd bl fl (.slice Af nf cf) A9 n (c - 1) b A5 (1 + n') c5 ((k : Int) :: f) w5) := fun A5 c5 w5 h1 h2 => HI.out.cut hdd (by
          by_cases h : c = 1
          · have := HI.out.cap
            left
            omega
          · right; rw [hA9, if_neg h]; rfl) h1 h2
        clear hsl hA9 hdd HI HR hn1 hi
        go_wp2_with (at_builtin; (refine wpList_app _ rfl (.tmp 24) (.tmp 25) 23 rfl wr.heap.size 3 (.int .i64 0) 8 HE.out (.slice (some ⟨wr.heap.size, 0, none⟩) 1 1) 1 [.int .i64 (k : Int)] (by simp [Act.eval, Act.put]) (World.ownsRow_lit (e := 3) (base := wr.heap.size) (size := 1) wr #[.int .i64 (k : Int)] 1 (Nat.le_refl _) (by unfold maxLen; omega) (by simp)) A' n' c' (f.map (Value.int .i64)) (by simp [Act.eval, Act.put]) (reads_later HRF.out) (ints_one9 _) (by unfold maxLen; omega) (by omega) (by simp only [World.size_alloc]; omega) ?_; intro A5 c5 w5 hown hgrow _; have HF := Lib.hid (HCUT.out _ _ _ hown hgrow); clear hown hgrow))
        go_roundw
        case rel => exact ⟨_, _, _, _, _, _, _, _, rfl, rfl, HF⟩
        case measure => show n < n + 1; omega
      | false =>
        rw [hdd] at hcd
        have HF0 : Hid (helpB dead ((k : Int) :: b) f = ((k : Int) :: b, f)) := helpB_live hdd
        clear hdd
        go_wp2_with (at_builtin; (refine wpList_app _ rfl (.tmp 30) (.tmp 31) 23 rfl wr.heap.size 3 (.int .i64 0) 8 HE.out (.slice (some ⟨wr.heap.size, 0, none⟩) 1 1) 1 [.int .i64 t] (by simp [Act.eval, Act.put]) (World.ownsRow_lit (e := 3) (base := wr.heap.size) (size := 1) wr #[.int .i64 t] 1 (Nat.le_refl _) (by unfold maxLen; omega) (by simp)) (some d) (n + 1) c (((k : Int) :: b).map (Value.int .i64)) (by simp [Act.eval, Act.put]) (reads_later HR.out) (ints_one9 _) (by unfold maxLen; omega) (by omega) (by simp only [World.size_alloc]; omega) ?_; intro A5 c5 w5 hown hgrow _; have HF := Lib.hid (HEND.out _ _ _ _ _ _ _ _ _ _ _ _ HI.out HF0.out hown hgrow); clear hown hgrow))
        go_ret2
        exact HF.out
end Go.Proofs.Ytndpkonihcebeaa.Kod.Nine
