/- Package wheel: peek. -/
import Derived.Test.YtndpkonihcebeaaLPas
namespace Go.Proofs.Ytndpkonihcebeaa.Whl
open Go.RowKit Go.Proofs.Ytndpkonihcebeaa Go.Proofs.Ytndpkonihcebeaa.Cell Go.Proofs.Ytndpkonihcebeaa.Seq Go.Proofs.Ytndpkonihcebeaa.Num Go.Proofs.Ytndpkonihcebeaa.SetN Go.Proofs.Ytndpkonihcebeaa.Dig Go.Proofs.Ytndpkonihcebeaa.Bits
set_option linter.unusedVariables false
set_option linter.unusedSimpArgs false
variable {a b bl bs L S B : Nat} {Q : World → Zone → Int → Prop}

/-- A continuation that takes a number. -/
structure TakesI (a b n : Nat) (f : FuncId) (cap : Array Value) (w : World) (Z : Zone) (c : Int) (xs : List Int) (v : Int) (Q : World → Zone → Int → Prop) : Prop where
  en : Enters Try.prog f
  run : ∀ w' Z', Mid a b w Z w' Z' → ZOk a b w' Z' → Arena w' a b c xs → Calls Try.prog f (#[.int .i64 v] ++ cap) w' (EndsIn a b n w' Z' c Q)
theorem TakesI.later {n : Nat} {f : FuncId} {cap : Array Value} {w w1 : World} {Z Z1 : Zone} {c v : Int} {xs : List Int} (h : TakesI a b n f cap w Z c xs v Q) (m : Mid a b w Z w1 Z1) : TakesI a b n f cap w1 Z1 c xs v Q :=
  ⟨h.en, fun w' Z' h1 h2 h3 => h.run w' Z' (m.trans h1) h2 h3⟩
abbrev OK1 (f : FuncId) (cap : Array Value) : Obj := .cells #[.func (.func f) #[] cap] 113 (0, 0)
/-- What Peek tells, and in how many steps, from a level on. -/
def peekR (now : Int) (L B : Nat) (xs : List Int) : Nat → Nat → Int × Nat
  | 0, _ => (if xs.getD 0 0 = 0 then -1 else (flo now L B : Int) + ((2 ^ (L * B) : Nat) : Int), 1)
  | d + 1, lv =>
    if nextV (xs.getD (1 + lv) 0).toNat (dig now lv B + 1) < 0 then ((peekR now L B xs d (lv + 1)).1, (peekR now L B xs d (lv + 1)).2 + 1)
    else ((flo now ((lv : Int) + 1) B : Int) + nextV (xs.getD (1 + lv) 0).toNat (dig now lv B + 1) * ((2 ^ (lv * B) : Nat) : Int), 1)
theorem peekR_le (now : Int) (xs : List Int) : ∀ d lv, (peekR now L B xs d lv).2 ≤ d + 1
  | 0, _ => by unfold peekR; omega
  | d + 1, lv => by
    unfold peekR
    split
    · have := peekR_le now xs d (lv + 1); simp only; omega
    · simp only; omega
theorem pow_le20 {k : Nat} (h : k ≤ 20) : 2 ^ k ≤ 1048576 := Nat.le_trans (Nat.pow_le_pow_right (by decide) h) (by decide)
theorem flo_lt (t l b : Int) : flo t l b < 4294967296 := by
  have h1 := tm_lt t
  have h2 : flo t l b ≤ tm t := by unfold flo; exact Nat.div_mul_le_self _ _
  omega
theorem dig_le (t l b : Int) : dig t l b + 1 ≤ 64 := by
  have h1 : dig t l b < 2 ^ wd b := Nat.mod_lt _ (Nat.two_pow_pos _)
  have h2 : 2 ^ wd b ≤ 2 ^ 6 := Nat.pow_le_pow_right (by decide) (wd_bd b).2
  omega
theorem nextV_bd (s a : Nat) : -1 ≤ nextV s a ∧ nextV s a < 64 := by
  unfold nextV
  cases h : fromS s a with
  | nil => simp
  | cons n r =>
    have : n ∈ fromS s a := by rw [h]; exact List.mem_cons_self
    have h2 := mem_upS' s n (64 - a) a this
    simp only
    omega
theorem wrap_mul {l b' : Nat} (h : l * b' ≤ 20) : IntKind.i64.wrap ((l : Int) * (b' : Int)) = ((l * b' : Nat) : Int) := by
  have h0 : ((l * b' : Nat) : Int) ≤ 20 := by omega
  have h1 : 0 ≤ ((l * b' : Nat) : Int) := by omega
  rw [← Int.natCast_mul, IntKind.wrap_i64]
  generalize ((l * b' : Nat) : Int) = z at *
  omega
theorem shl_nat (x k : Nat) (hx : x ≤ 64) (hk : k ≤ 20) : Op.shift .shl .i64 (x : Int) .i64 (k : Int) = pure (.int .i64 ((x * 2 ^ k : Nat) : Int)) := by
  have hp := pow_le20 hk
  rw [shift_shl_any _ _ _ _ (by omega)]
  have e1 : min (k : Int).toNat IntKind.i64.bits = k := by
    rw [Int.toNat_natCast]
    exact Nat.min_eq_left (Nat.le_trans hk (by decide))
  rw [e1]
  have e2 : (x : Int) * 2 ^ k = ((x * 2 ^ k : Nat) : Int) := by push_cast; rfl
  have h3 : x * 2 ^ k ≤ 64 * 1048576 := Nat.mul_le_mul hx hp
  rw [e2]
  generalize x * 2 ^ k = z at *
  have e4 : IntKind.i64.wrap (z : Int) = (z : Int) := by rw [IntKind.wrap_i64]; omega
  rw [e4]
theorem shl_run' {l b' : Nat} (x : Nat) (hx : x ≤ 64) (h : l * b' ≤ 20) (w : World) : (Op.shift .shl .i64 (x : Int) .i64 (IntKind.i64.wrap ((l : Int) * (b' : Int)))).run Try.prog w = .ok (.int .i64 ((x * 2 ^ (l * b') : Nat) : Int)) w := by
  rw [wrap_mul h, shl_nat x _ hx h]; rfl
set_option maxRecDepth 100000 in
set_option maxHeartbeats 2000000 in
/-- What is far off. -/
theorem peek1_w {n first bt b1 b2 bw : Nat} {now : Int} {f : FuncId} {cap : Array Value} {w : World} {Z : Zone} {c : Int} {xs : List Int} (hz : ZOk a b w Z) (hA : Arena w a b c xs) (hLB : L * B ≤ 20)
    (h1 : Blk w Z bt (OK1 f cap)) (h2 : Blk w Z b1 (OI now)) (h3 : Blk w Z b2 (OI L)) (h4 : Blk w Z bw (OW a bl bs L B))
    (ht : TakesI a b n f cap w Z c xs (if first = 0 then -1 else (flo now L B : Int) + ((2 ^ (L * B) : Nat) : Int)) Q) :
    Calls Try.prog 134 #[.int .u64 (first : Int), .pointer (some ⟨bt, 0, none⟩), .pointer (some ⟨b1, 0, none⟩), .pointer (some ⟨b2, 0, none⟩), .pointer (some ⟨bw, 0, none⟩)] w (EndsIn a b n w Z c Q) := by
  obtain ⟨_, _, c2, _, _, _, _⟩ := wv_cells h4
  have d1 := h1.cell
  have d2 := h2.cell
  have d3 := h3.cell
  have hen : ∀ (args : Array Value) (w : World), (callFunc f args).run Try.prog w = .ok (.enter f args) w := ht.en
  by_cases hf : first = 0
  · rw [if_pos hf] at ht
    subst hf
    have HC : Hid (Calls Try.prog f (#[.int .i64 (-1)] ++ cap) w (fun e w2 => EndsIn a b n w Z c Q e w2 ∧ ∃ v, e = .returned v)) := (ht.run w Z (Btw.refl _ _).mid hz hA).mono fun e w2 h => ⟨h, h.value⟩
    clear hz hA h1 h2 h3 h4 ht
    go_enter Try.func134, Try.ntmps134
    go_wp2_with fail
    refine HC.out.mono ?_
    rintro e w2 ⟨hg, v, rfl⟩
    go_wp2_with fail
    go_ret
    exact hg
  · rw [if_neg hf] at ht
    have hf0 : ¬ (first : Int) = 0 := by omega
    have hd : Made w w.drew := Made.drewN w 1
    have HFL := Lib.hid (fun w => Dig.Floor_c now (L : Int) (B : Int) w)
    have hp := pow_le20 hLB
    have hfl := flo_lt now (L : Int) (B : Int)
    have HC : Hid (Calls Try.prog f (#[.int .i64 ((flo now L B : Int) + ((2 ^ (L * B) : Nat) : Int))] ++ cap) w.drew (fun e w2 => EndsIn a b n w Z c Q e w2 ∧ (w2.cell? ⟨bt, 0, none⟩ = some (.func (.func f) #[] cap) ∧ w2.cell? ⟨b1, 0, none⟩ = some (.int .i64 now) ∧ w2.cell? ⟨b2, 0, none⟩ = some (.int .i64 (L : Int)) ∧ w2.cell? ⟨bw, 2, none⟩ = some (.int .i64 (B : Int))) ∧ ∃ v, e = .returned v)) := (ht.run w.drew Z (Btw.of_made hz hd).mid (hz.later hd.size) (hA.later hd)).mono fun e w2 he => by
      have he' := he.pre (Work.of_made hz hd)
      obtain ⟨Z2, g1⟩ := blk_ends h4 he'
      obtain ⟨_, _, k2, _, _, _, _⟩ := wv_cells g1
      exact ⟨he', ⟨h1.ends he', h2.ends he', h3.ends he', k2⟩, he'.value⟩
    have hsl := fun w => shl_run' (l := L) (b' := B) 1 (by omega) hLB w
    rw [show ((1 : Nat) : Int) = 1 from rfl, Nat.one_mul] at hsl
    obtain ⟨F, hFe⟩ : ∃ F : Int, F = (flo now (L : Int) (B : Int) : Int) := ⟨_, rfl⟩
    obtain ⟨P, hPe⟩ : ∃ P : Int, P = ((2 ^ (L * B) : Nat) : Int) := ⟨_, rfl⟩
    have hP : P ≤ 1048576 := by omega
    have hP0 : 0 ≤ P := by rw [hPe]; exact Int.natCast_nonneg _
    have hF : F < 4294967296 := by omega
    have hF0 : 0 ≤ F := by omega
    rw [← hFe] at HFL HC
    rw [← hPe] at hsl HC
    clear hFe hPe
    have HFP : Hid (IntKind.i64.wrap (F + P) = F + P) := by show _ = _; rw [IntKind.wrap_i64]; omega
    clear hz hA h1 h2 h3 h4 ht hf hd hp hfl hLB
    go_enter Try.func134, Try.ntmps134
    go_wp2_with fail
    go_region_held3 (fun w2 => w2.cell? ⟨bt, 0, none⟩ = some (.func (.func f) #[] cap) ∧ w2.cell? ⟨b1, 0, none⟩ = some (.int .i64 now) ∧ w2.cell? ⟨b2, 0, none⟩ = some (.int .i64 (L : Int)) ∧ w2.cell? ⟨bw, 2, none⟩ = some (.int .i64 (B : Int))) (first | assumption | (refine ⟨?_, ?_, ?_, ?_⟩ <;> first | assumption | simpa using d1 | simpa using d2 | simpa using d3 | simpa using c2)) (first | (go_at_call 135; refine (HFL.out _).mono ?_; rintro e w' ⟨rfl, rfl⟩) | (go_at_fn f; (first | rw [HFP.out] | skip); refine HC.out.mono ?_; rintro e w3 ⟨he, hk, v, rfl⟩))
    all_goals
      go_wp2_with fail
      go_ret
      exact he
theorem FL_c (t : Int) (l b' : Nat) (w : World) : Calls Try.prog 135 #[.int .i64 t, .int .i64 (l : Int), .int .i64 (b' : Int)] w fun e w' => e = .returned (.int .i64 (flo t l b')) ∧ w = w' := Dig.Floor_c t l b' w
set_option maxRecDepth 100000 in
set_option maxHeartbeats 4000000 in
/-- A level has something behind its digit: it is told. -/
theorem peek2_yes {n lv set b1 b2 bw bt : Nat} {now : Int} {f : FuncId} {cap : Array Value} {w : World} {Z : Zone} {c : Int} {xs : List Int} (hz : ZOk a b w Z) (hA : Arena w a b c xs) (hLB : lv * B ≤ 20) (hlv : lv ≤ 20) (hs : set < 2 ^ 64) (hn : ¬ nextV set (dig now lv B + 1) < 0)
    (h1 : Blk w Z b1 (OI now)) (h2 : Blk w Z b2 (OI lv)) (h3 : Blk w Z bw (OW a bl bs L B)) (h4 : Blk w Z bt (OK1 f cap))
    (ht : TakesI a b n f cap w Z c xs ((flo now ((lv : Int) + 1) B : Int) + nextV set (dig now lv B + 1) * ((2 ^ (lv * B) : Nat) : Int)) Q) :
    Calls Try.prog 136 #[.int .u64 (set : Int), .pointer (some ⟨b1, 0, none⟩), .pointer (some ⟨b2, 0, none⟩), .pointer (some ⟨bw, 0, none⟩), .pointer (some ⟨bt, 0, none⟩)] w (EndsIn a b n w Z c Q) := by
  obtain ⟨_, _, c2, _, _, _, _⟩ := wv_cells h3
  have d1 := h1.cell
  have d2 := h2.cell
  have d4 := h4.cell
  have hen : ∀ (args : Array Value) (w : World), (callFunc f args).run Try.prog w = .ok (.enter f args) w := ht.en
  have hnb := nextV_bd set (dig now lv B + 1)
  obtain ⟨x, hx⟩ := Int.eq_ofNat_of_zero_le (show 0 ≤ nextV set (dig now lv B + 1) by omega)
  have HDG := Lib.hid (fun w => Dig.Digit_c now (lv : Int) (B : Int) w)
  have HNX : Hid (∀ w : World, Calls Try.prog 137 #[.int .u64 (set : Int), .int .i64 ((dig now lv B : Int) + 1)] w fun e w' => e = .returned (.int .i64 (x : Int)) ∧ w = w') := fun w => by
    have hh := Bits.Next_c set (dig now lv B + 1) hs (dig_le now lv B) w
    rw [hx] at hh
    exact hh
  have hdg := dig_le now lv B
  rw [hx] at ht hnb
  have hx64 : x < 64 := by omega
  have HFL := Lib.hid (fun w => Dig.Floor_c now ((lv : Int) + 1) (B : Int) w)
  have hp := pow_le20 hLB
  have hfl := flo_lt now ((lv : Int) + 1) (B : Int)
  have hsl := fun w => shl_run' (l := lv) (b' := B) x (by omega) hLB w
  have e0 : (x : Int) * ((2 ^ (lv * B) : Nat) : Int) = ((x * 2 ^ (lv * B) : Nat) : Int) := by push_cast; rfl
  have h3' : x * 2 ^ (lv * B) ≤ 64 * 1048576 := Nat.mul_le_mul (by omega) hp
  rw [e0] at ht
  have HC : Hid (∀ w1, Made w w1 → Calls Try.prog f (#[.int .i64 ((flo now ((lv : Int) + 1) B : Int) + ((x * 2 ^ (lv * B) : Nat) : Int))] ++ cap) w1 (fun e w2 => EndsIn a b n w Z c Q e w2 ∧ (w2.cell? ⟨bt, 0, none⟩ = some (.func (.func f) #[] cap) ∧ w2.cell? ⟨b1, 0, none⟩ = some (.int .i64 now) ∧ w2.cell? ⟨b2, 0, none⟩ = some (.int .i64 (lv : Int)) ∧ w2.cell? ⟨bw, 2, none⟩ = some (.int .i64 (B : Int))) ∧ ∃ v, e = .returned v)) := fun w1 hm => (ht.run w1 Z (Btw.of_made hz hm).mid (hz.later hm.size) (hA.later hm)).mono fun e w2 he => by
    have he' := he.pre (Work.of_made hz hm)
    obtain ⟨Z2, g1⟩ := blk_ends h3 he'
    obtain ⟨_, _, k2, _, _, _, _⟩ := wv_cells g1
    exact ⟨he', ⟨h4.ends he', h1.ends he', h2.ends he', k2⟩, he'.value⟩
  obtain ⟨D, hDe⟩ : ∃ D : Int, D = (dig now lv B : Int) := ⟨_, rfl⟩
  obtain ⟨F, hFe⟩ : ∃ F : Int, F = (flo now ((lv : Int) + 1) (B : Int) : Int) := ⟨_, rfl⟩
  obtain ⟨P, hPe⟩ : ∃ P : Int, P = ((x * 2 ^ (lv * B) : Nat) : Int) := ⟨_, rfl⟩
  have hD1 : D ≤ 63 := by omega
  have hD0 : 0 ≤ D := by rw [hDe]; exact Int.natCast_nonneg _
  have hP : P ≤ 67108864 := by omega
  have hP0 : 0 ≤ P := by rw [hPe]; exact Int.natCast_nonneg _
  have hF : F < 4294967296 := by omega
  have hF0 : 0 ≤ F := by rw [hFe]; exact Int.natCast_nonneg _
  rw [← hFe] at HFL HC
  rw [← hPe] at hsl HC
  rw [← hDe] at HDG HNX
  have HFP : Hid (IntKind.i64.wrap (F + P) = F + P) := by show _ = _; rw [IntKind.wrap_i64]; omega
  have hxn : ¬ (x : Int) < 0 := by omega
  have HWR : Hid (IntKind.i64.wrap ((lv : Int) + 1) = (lv : Int) + 1) := by show _ = _; rw [IntKind.wrap_i64]; omega
  have HMW : Hid (∀ w1, Made w w1 → w1.cell? ⟨bt, 0, none⟩ = some (.func (.func f) #[] cap) ∧ w1.cell? ⟨b1, 0, none⟩ = some (.int .i64 now) ∧ w1.cell? ⟨b2, 0, none⟩ = some (.int .i64 (lv : Int)) ∧ w1.cell? ⟨bw, 2, none⟩ = some (.int .i64 (B : Int))) := fun w1 hm => by
    obtain ⟨_, _, k2, _, _, _, _⟩ := wv_cells (h3.later (Ext.of_made hm))
    exact ⟨(h4.later (Ext.of_made hm)).cell, (h1.later (Ext.of_made hm)).cell, (h2.later (Ext.of_made hm)).cell, k2⟩
  clear hz hA h1 h2 h3 h4 ht hn hnb hx hdg hp hfl e0 h3' hFe hPe hDe hs hLB
  go_enter Try.func136, Try.ntmps136
  go_wp2_with fail
  refine (HDG.out _).mono ?_
  rintro e w1 ⟨rfl, k1, hk1⟩
  have hmw : Made w w1 := hk1 ▸ Made.drewN w k1
  obtain ⟨x4, x1, x2, y2⟩ := HMW.out w1 hmw
  have HC1 := Lib.hid (HC.out w1.drew (Made.trans hmw (Made.drewN w1 1)))
  clear hk1 d1 d2 d4 c2 HC HMW hmw
  go_wp2_with fail
  refine (HNX.out _).mono ?_
  rintro e w' ⟨rfl, rfl⟩
  go_wp2_with fail
  go_region_held3 (fun w2 => w2.cell? ⟨bt, 0, none⟩ = some (.func (.func f) #[] cap) ∧ w2.cell? ⟨b1, 0, none⟩ = some (.int .i64 now) ∧ w2.cell? ⟨b2, 0, none⟩ = some (.int .i64 (lv : Int)) ∧ w2.cell? ⟨bw, 2, none⟩ = some (.int .i64 (B : Int))) (first | assumption | (refine ⟨?_, ?_, ?_, ?_⟩ <;> first | assumption | simpa using x4 | simpa using x1 | simpa using x2 | simpa using y2)) (first | (go_at_call 135; (first | rw [HWR.out] | skip); refine (HFL.out _).mono ?_; rintro e w' ⟨rfl, rfl⟩) | (go_at_fn f; (first | rw [HFP.out] | skip); refine HC1.out.mono ?_; rintro e w3 ⟨he, hk, v, rfl⟩))
  all_goals
    go_wp2_with fail
    go_ret
    exact he
end Go.Proofs.Ytndpkonihcebeaa.Whl
