/- Package knelllaw10: its small functions, told of lists of tickets. -/
import Derived.Test.YtndpkonihcebeaaFsh
namespace Go.Proofs.Ytndpkonihcebeaa.Whl
open Go.RowKit Go.Proofs.Ytndpkonihcebeaa Go.Proofs.Ytndpkonihcebeaa.Cell Go.Proofs.Ytndpkonihcebeaa.Seq Go.Proofs.Ytndpkonihcebeaa.Num Go.Proofs.Ytndpkonihcebeaa.SetN Go.Proofs.Ytndpkonihcebeaa.Dig Go.Proofs.Ytndpkonihcebeaa.Bits
set_option linter.unusedVariables false
set_option linter.unusedSimpArgs false
variable {a b bl bs L S B N : Nat}

/-- What the law has between its calls: the wheel's lists are chs. -/
structure Whe (a b bl bs L S B N : Nat) (w : World) (c : Int) (xs : List Int) (chs : Nat → Nat → List Nat) : Prop where
  ar : Arena w a b c xs
  env : LEnv a b bl bs L S w
  wst : Wst L S N xs chs
  sb : S = 2 ^ B
  b1 : 1 ≤ B
  b6 : B ≤ 6
  n : N ≤ 1000
theorem Whe.made {w w' : World} {c : Int} {xs : List Int} {chs : Nat → Nat → List Nat} (h : Whe a b bl bs L S B N w c xs chs) (m : Made w w') : Whe a b bl bs L S B N w' c xs chs :=
  ⟨h.ar.later m, h.env.past (Past.of_made m), h.wst, h.sb, h.b1, h.b6, h.n⟩
theorem insC_bd (lv sl : Nat) (xs : List Int) (c : Int) : c ≤ insC L S lv sl xs c ∧ insC L S lv sl xs c ≤ c + 5 := by
  unfold insC; split <;> omega
theorem insert_law {t : Nat} {now due : Int} {w : World} {c : Int} {xs : List Int} {chs : Nat → Nat → List Nat} (h : Whe a b bl bs L S B N w c xs chs) (ht : t < 20) (htN : 1 + L * (1 + S) + t < N) (hf : ∀ lv sl, Val L S lv sl → t ∉ chs lv sl) (hd : tm now < tm due) (hc : c + 5 < 4611686018427387904) :
    ∃ lv sl, Placed now due L B S lv sl ∧ Val L S lv sl ∧ Calls Try.prog 31 #[.agg (WV a bl bs L B), .int .i64 (t : Int), .int .i64 now, .int .i64 due] w fun e w' => e = .returned (.bool true) ∧ ∃ c' xs', Whe a b bl bs L S B N w' c' xs' (insCh t lv sl chs) ∧ c ≤ c' ∧ c' ≤ c + 5 ∧ Past a b w w' := by
  obtain ⟨lv, sl, hp, h0⟩ := placed_of (L := L) hd h.b1 h.b6 h.sb h.env.s1
  have hv : Val L S lv sl := ⟨hp.l, hp.s, h0⟩
  refine ⟨lv, sl, hp, hv, (insert_c h.ar h.env hp (by rw [h.wst.good.len]; exact htN) h.wst.wide hc (by omega)).mono ?_⟩
  rintro e w' ⟨rfl, hA, hP⟩
  have hb := insC_bd (L := L) (S := S) lv sl xs c
  exact ⟨rfl, _, _, ⟨hA, h.env.past hP, h.wst.ins hv ht htN hf, h.sb, h.b1, h.b6, h.n⟩, hb.1, hb.2, hP⟩
theorem flat_len : ∀ {cs : List (List Nat)}, (∀ ch ∈ cs, ch ≠ []) → cs.length ≤ cs.flatten.length
  | [], _ => by simp
  | ch :: r, h => by
    have h1 := flat_len fun x hx => h x (List.mem_cons_of_mem _ hx)
    have h2 : ch.length ≠ 0 := fun e => h ch List.mem_cons_self (List.length_eq_zero_iff.1 e)
    rw [List.length_cons, List.flatten_cons, List.length_append]; omega
theorem pass_law {fr to' : Int} {w : World} {c : Int} {xs : List Int} {chs : Nat → Nat → List Nat} (h : Whe a b bl bs L S B N w c xs chs) (hc : c + 1000 < 4611686018427387904) (hG : (passG (crOf fr to' B) S L 0 chs).length ≤ 90) :
    Calls Try.prog 33 #[.agg (WV a bl bs L B), .int .i64 fr, .int .i64 to'] w fun e w' => ∃ v, e = .returned (.tuple #[v, .bool true]) ∧ ∃ c' xs', Whe a b bl bs L S B N w' c' xs' (passCh (crOf fr to' B) L 0 chs) ∧ c ≤ c' ∧ c' ≤ c + 600 ∧ Past a b w w' ∧
      w'.ownsRow w.heap.size 3 1 v (passG (crOf fr to' B) S L 0 chs).length (vals (passG (crOf fr to' B) S L 0 chs)) := by
  have hcrs := crs_of fr to' B
  have hps := pass_wst (crOf fr to' B) (fun lv lo hi e => (hcrs.yes lv lo hi e).2.2) L 0 xs [] c chs h.wst (by omega)
  obtain ⟨fs, cs, p1, p2, p3, p4⟩ := hps.parts
  have hce := hps.cost
  have hL8 := h.env.l5
  have hne : ∀ ch ∈ cs, ch ≠ [] := fun ch hm e => by
    obtain ⟨k, hk⟩ := List.getElem?_of_mem hm
    have hkl := (List.getElem?_eq_some_iff.1 hk).1
    have := (p3 k (fs[k]'(by omega)) ch (List.getElem?_eq_getElem (by omega)) hk).2
    rw [e] at this
    have h0 : _ + 1 = 0 := this
    omega
  have hfl := flat_len hne
  rw [← p4] at hG ⊢
  rw [List.nil_append] at p1
  have hN := h.wst.hn
  rw [LS_eq] at hN
  refine (pass_c (B := B) hcrs (N := N) h.ar h.env h.wst.good (by omega) hc (by have := h.n; omega) p1 hps.wst.good.len p2 p3 hG (by omega)).mono ?_
  rintro e w' ⟨v, rfl, hA, hP, hO⟩
  exact ⟨v, rfl, _, _, ⟨hA, h.env.past hP, hps.wst, h.sb, h.b1, h.b6, h.n⟩, hce.1, by omega, hP, hO⟩
theorem list_law {w : World} {c : Int} {xs : List Int} {chs : Nat → Nat → List Nat} (h : Whe a b bl bs L S B N w c xs chs) (hT : (listOf L S chs).length ≤ N) :
    Calls Try.prog 38 #[.agg (WV a bl bs L B)] w fun e w' => ∃ v, e = .returned v ∧ w'.ownsRow w.heap.size 99 3 v (listOf L S chs).length (tc (listOf L S chs)) ∧ Made w w' ∧ Whe a b bl bs L S B N w' c xs chs := by
  have hN := h.wst.hn
  rw [LS_eq] at hN
  refine (List_w (B := B) (chs := chs) h.ar h.env h.wst.good.len (by omega) h.n h.sb h.b6 (fun lv sl h1 h2 h3 => h.wst.chn lv sl ⟨h1, h2, h3⟩) hT).mono ?_
  rintro e w' ⟨v, rfl, hO, hM⟩
  exact ⟨v, rfl, hO, hM, h.made hM⟩
theorem peek_law {now : Int} {w : World} {c : Int} {xs : List Int} {chs : Nat → Nat → List Nat} (h : Whe a b bl bs L S B N w c xs chs) (hc : c + 1000 < 4611686018427387904) (hLB : L * B ≤ 20) :
    Calls Try.prog 35 #[.agg (WV a bl bs L B), .int .i64 now] w fun e w' => e = .returned (.tuple #[.int .i64 (peekR now L B xs L 0).1, .bool true]) ∧ ∃ c', Whe a b bl bs L S B N w' c' xs chs ∧ c ≤ c' ∧ c' ≤ c + 9 ∧ Past a b w w' := by
  have hN := h.wst.hn
  rw [LS_eq] at hN
  have hst := peekR_le (L := L) (B := B) now xs L 0
  have hL8 := h.env.l5
  refine (peek_c (B := B) (N := N) h.ar h.env h.wst.good (by omega) hc hLB).mono ?_
  rintro e w' ⟨rfl, hA, hP⟩
  exact ⟨rfl, _, ⟨hA, h.env.past hP, h.wst, h.sb, h.b1, h.b6, h.n⟩, by omega, by omega, hP⟩
theorem fresh_law (L B S n : Nat) (hL1 : 1 ≤ L) (hL8 : L ≤ 8) (hB : B ≤ 6) (hB1 : 1 ≤ B) (hS : S = 2 ^ B) (hS2 : 2 ≤ S) (hS64 : S ≤ 64) (hn : n ≤ 100) (w : World) : Calls Try.prog 30 #[.int .i64 (L : Int), .int .i64 (B : Int), .int .i64 (n : Int)] w fun e w' =>
    ∃ a b bl bs, e = .returned (.tuple #[.agg (WV a bl bs L B), .bool true]) ∧ Whe a b bl bs L S B (1 + L * (1 + S) + n) w' 0 (List.replicate (1 + L * (1 + S) + n) 0) (fun _ _ => []) ∧ w.heap.size ≤ a ∧ w.heap.size ≤ b ∧ Made w w' := by
  refine (fresh_c L B S n hL1 hL8 hB hB1 hS hS2 hS64 hn w).mono ?_
  rintro e w' ⟨a, b, bl, bs, rfl, hA, hE, h1, h2, _, _, hM⟩
  have h3 : L * (1 + S) ≤ 8 * 65 := Nat.mul_le_mul hL8 (by omega)
  exact ⟨a, b, bl, bs, rfl, ⟨hA, hE, Wst.empty (by omega) hS64 (by omega), hS, hB1, hB, by omega⟩, h1, h2, hM⟩
/-- What is behind the arena's blocks from some block on has not been there. -/
theorem Past.below {w w' : World} {B0 : Nat} (h : Past a b w w') (ha : B0 ≤ a) (hb : B0 ≤ b) (hB : B0 ≤ w.heap.size) : Below B0 w w' :=
  ⟨h.os, h.tape, h.output, h.size, fun k hk => h.block k (by omega) (by omega) (by omega)⟩
end Go.Proofs.Ytndpkonihcebeaa.Whl
