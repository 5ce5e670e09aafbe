/- Package plan, walked: where the cells lie. -/
import Derived.Test.YtnkcekgjppkbpaaPlan6
namespace Go.Proofs.Ytnkcekgjppkbpaa.Plan
open Go.RowKit Go.Proofs.Ytnkcekgjppkbpaa Go.Proofs.Ytnkcekgjppkbpaa.PlanN
set_option linter.unusedVariables false
set_option linter.unusedSimpArgs false

def amongI (base i many apart : Int) : Int := if i < 0 ∨ many ≤ i then -1 else base + i * apart
def withinI (base far : Int) : Int := if base < 0 ∨ far < 0 then -1 else base + far
theorem among_bd {base i many apart : Int} (hb : 0 ≤ base ∧ base ≤ 1000000) (hm : many ≤ 100000) (ha : 0 ≤ apart ∧ apart ≤ 1000000) : -1 ≤ amongI base i many apart ∧ amongI base i many apart ≤ 1000000000000 := by
  unfold amongI
  split
  · omega
  · have h1 : 0 ≤ i * apart := Int.mul_nonneg (by omega) ha.1
    have h2 : i * apart ≤ 100000 * apart := Int.mul_le_mul_of_nonneg_right (by omega) ha.1
    omega
theorem within_bd {base far : Int} (hb : -1 ≤ base ∧ base ≤ 1000000000000) (hf : -1 ≤ far ∧ far ≤ 1000000000000) : -1 ≤ withinI base far ∧ withinI base far ≤ 2000000000000 := by
  unfold withinI
  split <;> omega

set_option maxHeartbeats 400000 in
theorem among_c (base i many apart : Int) (hb : 0 ≤ base ∧ base ≤ 1000000) (hm : many ≤ 100000) (ha : 0 ≤ apart ∧ apart ≤ 1000000) (w : World) :
    Calls Try.prog 73 #[.int .i64 base, .int .i64 i, .int .i64 many, .int .i64 apart] w fun e w' => e = .returned (.int .i64 (amongI base i many apart)) ∧ w = w' := by
  by_cases h0 : i < 0
  · have hr : Hid (amongI base i many apart = -1) := by show _ = _; unfold amongI; rw [if_pos (.inl h0)]
    go_enter Try.func73, Try.ntmps73
    go_wp2_with fail
    go_ret
    exact ⟨by rw [hr.out]; rfl, rfl⟩
  · by_cases h1 : many ≤ i
    · have hr : Hid (amongI base i many apart = -1) := by show _ = _; unfold amongI; rw [if_pos (.inr h1)]
      go_enter Try.func73, Try.ntmps73
      go_wp2_with fail
      go_ret
      exact ⟨by rw [hr.out]; rfl, rfl⟩
    · have hr : Hid (amongI base i many apart = base + i * apart) := by show _ = _; unfold amongI; rw [if_neg (by omega)]
      have g1 : 0 ≤ i * apart := Int.mul_nonneg (by omega) ha.1
      have g2 : i * apart ≤ 100000 * apart := Int.mul_le_mul_of_nonneg_right (by omega) ha.1
      have h1' : ¬ (many ≤ i) := h1
      have q1 : Hid (wrap64 (i * apart) = i * apart) := IntWalk.wrap64_in _ (by omega)
      have q2 : Hid (wrap64 (base + i * apart) = base + i * apart) := IntWalk.wrap64_in _ (by omega)
      clear g1 g2 hb hm ha
      have q1' := q1.out
      have q2' := q2.out
      go_enter Try.func73, Try.ntmps73
      go_wp2_with fail
      go_ret
      exact ⟨by rw [hr.out]; rfl, rfl⟩
set_option maxHeartbeats 400000 in
theorem within_c (base far : Int) (hb : -1 ≤ base ∧ base ≤ 1000000000000) (hf : -1 ≤ far ∧ far ≤ 1000000000000) (w : World) :
    Calls Try.prog 72 #[.int .i64 base, .int .i64 far] w fun e w' => e = .returned (.int .i64 (withinI base far)) ∧ w = w' := by
  by_cases h0 : base < 0
  · have hr : Hid (withinI base far = -1) := by show _ = _; unfold withinI; rw [if_pos (.inl h0)]
    go_enter Try.func72, Try.ntmps72
    go_wp2_with fail
    go_ret
    exact ⟨by rw [hr.out]; rfl, rfl⟩
  · by_cases h1 : far < 0
    · have hr : Hid (withinI base far = -1) := by show _ = _; unfold withinI; rw [if_pos (.inr h1)]
      go_enter Try.func72, Try.ntmps72
      go_wp2_with fail
      go_ret
      exact ⟨by rw [hr.out]; rfl, rfl⟩
    · have hr : Hid (withinI base far = base + far) := by show _ = _; unfold withinI; rw [if_neg (by omega)]
      have h0' : 0 ≤ base := by omega
      have h1' : 0 ≤ far := by omega
      go_enter Try.func72, Try.ntmps72
      go_wp2_with fail
      go_ret
      exact ⟨by rw [hr.out]; rfl, rfl⟩
set_option maxHeartbeats 400000 in
theorem In_c (n most : Int) (b : Bool) (hb : b = (decide (0 ≤ n) && decide (n < most))) (w : World) :
    Calls Try.prog 36 #[.int .i64 n, .int .i64 most] w fun e w' => e = .returned (.bool b) ∧ w = w' := by
  by_cases h0 : 0 ≤ n
  · by_cases h1 : n < most
    · have hr : Hid (b = true) := by show _ = _; rw [hb]; simp [h0, h1]
      clear hb
      go_enter Try.func36, Try.ntmps36
      go_wp2_with fail
      go_ret
      exact ⟨by rw [hr.out]; rfl, rfl⟩
    · have hr : Hid (b = false) := by show _ = _; rw [hb]; simp [h0, h1]
      have h1' : most ≤ n := by omega
      clear hb
      go_enter Try.func36, Try.ntmps36
      go_wp2_with fail
      go_ret
      exact ⟨by rw [hr.out]; first | rfl | (simp; omega), rfl⟩
  · have hr : Hid (b = false) := by show _ = _; rw [hb]; simp [h0]
    have h0' : n < 0 := by omega
    clear hb
    go_enter Try.func36, Try.ntmps36
    go_wp2_with fail
    go_ret
    exact ⟨by rw [hr.out]; first | rfl | (simp; omega), rfl⟩

/-- The places of a plan, as numbers. -/
def atI (xs : List Int) (s : Int) : Int := amongI 3 s (xs.getD 0 0) (shard xs)
def mapI (xs : List Int) (s k : Int) : Int := withinI (atI xs s) (amongI 3 k (xs.getD 1 0) (1 + slots xs))
def slotI (xs : List Int) (s k i : Int) : Int := withinI (mapI xs s k) (amongI 1 i (slots xs) 1)
def nodeI (xs : List Int) (n j : Int) : Int := withinI (amongI (nodes xs) n (xs.getD 3 0) 4) j
def ticketI (xs : List Int) (n j : Int) : Int := withinI (amongI (tickets xs) n (xs.getD 4 0) 3) j
def connI (xs : List Int) (n : Int) : Int := amongI (conns xs) n (xs.getD 7 0) 1

theorem plan_tail {xs : List Int} {p : Nat} {w : World} (hp : IsPlan w p xs) (h : xs.length = 13) : w.cell? ⟨p, 13, none⟩ = some (.int .i64 (slots xs)) ∧ w.cell? ⟨p, 14, none⟩ = some (.int .i64 (shard xs)) ∧ w.cell? ⟨p, 15, none⟩ = some (.int .i64 (nodes xs)) ∧ w.cell? ⟨p, 16, none⟩ = some (.int .i64 (tickets xs)) ∧ w.cell? ⟨p, 17, none⟩ = some (.int .i64 (conns xs)) := by
  have e : ∀ j, w.cell? ⟨p, 13 + j, none⟩ = ([slots xs, shard xs, nodes xs, tickets xs, conns xs].map (Value.int .i64))[j]? := fun j => by
    rw [cell_of_row _ _ _ _ _ _ hp]
    unfold planRow
    rw [List.getElem?_toArray, List.map_append, List.getElem?_append_right (by simp [h])]
    simp [h]
  exact ⟨e 0, e 1, e 2, e 3, e 4⟩

set_option maxRecDepth 100000 in
set_option maxHeartbeats 600000 in
theorem at_c {xs : List Int} {p : Nat} {w : World} (hp : IsPlan w p xs) (h : xs.length = 13) (hr : Rgt xs) (s : Int) : Calls Try.prog 71 #[.pointer (some ⟨p, 0, none⟩), .int .i64 s] w fun e w' => e = .returned (.int .i64 (atI xs s)) ∧ ∃ n, w' = w.drewN n := by
  have HG := rng hr
  obtain ⟨t13, t14, t15, t16, t17⟩ := plan_tail hp h
  have c0 := plan_cfg hp h 0 (by omega)
  have HA := Lib.hid (among_c 3 s (xs.getD 0 0) (shard xs) (by omega) (by have := HG.w; omega) (by have := HG.sh; omega))
  have d := t14
  unfold atI
  clear HG t13 t14 t15 t16 t17 hp hr h
  generalize xs.getD 0 0 = z at *
  generalize shard xs = y at *
  go_enter Try.func71, Try.ntmps71
  go_wp2_with fail
  go_quiet (first | (go_at_call 73; exact Calls.quiet_of_same (((HA.out) _).mono fun e w' h => ⟨h.1, h.2.symm⟩)))
  go_wp2_with fail
  go_ret
  exact ⟨rfl, _, rfl⟩

set_option maxRecDepth 100000 in
set_option maxHeartbeats 600000 in
theorem Inbox_c {xs : List Int} {p : Nat} {w : World} (hp : IsPlan w p xs) (h : xs.length = 13) (hr : Rgt xs) (s : Int) : Calls Try.prog 38 #[.pointer (some ⟨p, 0, none⟩), .int .i64 s] w fun e w' => e = .returned (.int .i64 (atI xs s)) ∧ ∃ n, w' = w.drewN n := by
  have H1 := Lib.hid (at_c hp h hr s)
  clear hp hr h
  go_enter Try.func38, Try.ntmps38
  go_wp2_with fail
  refine H1.out.mono ?_
  rintro e w' ⟨rfl, q, rfl⟩
  go_wp2_with fail
  go_ret
  exact ⟨rfl, _, rfl⟩

set_option maxRecDepth 100000 in
set_option maxHeartbeats 600000 in
theorem Cur_c {xs : List Int} {p : Nat} {w : World} (hp : IsPlan w p xs) (h : xs.length = 13) (hr : Rgt xs) (s : Int) : Calls Try.prog 39 #[.pointer (some ⟨p, 0, none⟩), .int .i64 s] w fun e w' => e = .returned (.int .i64 (withinI (atI xs s) 1)) ∧ ∃ n, w' = w.drewN n := by
  have HG := rng hr
  have BA := among_bd (base := 3) (i := s) (many := xs.getD 0 0) (apart := shard xs) (by omega) (by have := HG.w; omega) (by have := HG.sh; omega)
  have H1 := Lib.hid (at_c hp h hr s)
  have BD : -1 ≤ atI xs s ∧ atI xs s ≤ 1000000000000 := BA
  have H2 := Lib.hid (within_c (atI xs s) 1 BD (by omega))
  clear HG BA BD
  clear hp hr h
  go_enter Try.func39, Try.ntmps39
  go_wp2_with fail
  refine H1.out.mono ?_
  rintro e w' ⟨rfl, q, rfl⟩
  go_wp2_with fail
  refine (H2.out _).mono ?_
  rintro e w' ⟨rfl, rfl⟩
  go_wp2_with fail
  go_ret
  exact ⟨rfl, _, rfl⟩

set_option maxRecDepth 100000 in
set_option maxHeartbeats 600000 in
theorem Over_c {xs : List Int} {p : Nat} {w : World} (hp : IsPlan w p xs) (h : xs.length = 13) (hr : Rgt xs) (s : Int) : Calls Try.prog 40 #[.pointer (some ⟨p, 0, none⟩), .int .i64 s] w fun e w' => e = .returned (.int .i64 (withinI (atI xs s) 2)) ∧ ∃ n, w' = w.drewN n := by
  have HG := rng hr
  have BA := among_bd (base := 3) (i := s) (many := xs.getD 0 0) (apart := shard xs) (by omega) (by have := HG.w; omega) (by have := HG.sh; omega)
  have H1 := Lib.hid (at_c hp h hr s)
  have BD : -1 ≤ atI xs s ∧ atI xs s ≤ 1000000000000 := BA
  have H2 := Lib.hid (within_c (atI xs s) 2 BD (by omega))
  clear HG BA BD
  clear hp hr h
  go_enter Try.func40, Try.ntmps40
  go_wp2_with fail
  refine H1.out.mono ?_
  rintro e w' ⟨rfl, q, rfl⟩
  go_wp2_with fail
  refine (H2.out _).mono ?_
  rintro e w' ⟨rfl, rfl⟩
  go_wp2_with fail
  go_ret
  exact ⟨rfl, _, rfl⟩

set_option maxRecDepth 100000 in
set_option maxHeartbeats 1000000 in
theorem Map_c {xs : List Int} {p : Nat} {w : World} (hp : IsPlan w p xs) (h : xs.length = 13) (hr : Rgt xs) (s k : Int) : Calls Try.prog 41 #[.pointer (some ⟨p, 0, none⟩), .int .i64 s, .int .i64 k] w fun e w' => e = .returned (.int .i64 (mapI xs s k)) ∧ ∃ n, w' = w.drewN n := by
  have HG := rng hr
  obtain ⟨t13, t14, t15, t16, t17⟩ := plan_tail hp h
  have c1 := plan_cfg hp h 1 (by omega)
  have BA := among_bd (base := 3) (i := s) (many := xs.getD 0 0) (apart := shard xs) (by omega) (by have := HG.w; omega) (by have := HG.sh; omega)
  have BD : -1 ≤ atI xs s ∧ atI xs s ≤ 1000000000000 := BA
  have BB := among_bd (base := 3) (i := k) (many := xs.getD 1 0) (apart := 1 + slots xs) (by omega) (by have := HG.l; omega) (by have := HG.s; omega)
  have HT := Lib.hid (fun q : Nat => at_c (w := w.drewN q) hp h hr s)
  have HA := Lib.hid (among_c 3 k (xs.getD 1 0) (1 + slots xs) (by omega) (by have := HG.l; omega) (by have := HG.s; omega))
  have HW := Lib.hid (within_c (atI xs s) (amongI 3 k (xs.getD 1 0) (1 + slots xs)) BD (by omega))
  have Q0 : Hid (IntKind.i64.wrap (1 + slots xs) = 1 + slots xs) := IntWalk.i64_in _ (by have := HG.s; omega)
  have HSB := HG.s
  have HB1 : 0 ≤ slots xs := by omega
  have HB2 : slots xs ≤ 64 := by omega
  clear BA BD BB
  unfold mapI
  clear HG hp hr h
  generalize amongI 3 k (xs.getD 1 0) (1 + slots xs) = y at *
  generalize atI xs s = z at *
  generalize slots xs = u at *
  generalize xs.getD 1 0 = v at *
  have q0 := Q0.out
  clear HSB t14 t15 t16 t17
  go_enter Try.func41, Try.ntmps41
  go_wp2_with fail
  go_quiet (first | (go_at_call 71; exact Calls.quiet_of (HT.out _)) | (go_at_call 73; exact Calls.quiet_of_same ((HA.out _).mono fun e w' h => ⟨h.1, h.2.symm⟩)) | (go_at_call 72; exact Calls.quiet_of_same ((HW.out _).mono fun e w' h => ⟨h.1, h.2.symm⟩)))
  go_wp2_with fail
  go_ret
  exact ⟨rfl, _, rfl⟩

set_option maxRecDepth 100000 in
set_option maxHeartbeats 1000000 in
theorem Slot_c {xs : List Int} {p : Nat} {w : World} (hp : IsPlan w p xs) (h : xs.length = 13) (hr : Rgt xs) (s k i : Int) : Calls Try.prog 42 #[.pointer (some ⟨p, 0, none⟩), .int .i64 s, .int .i64 k, .int .i64 i] w fun e w' => e = .returned (.int .i64 (slotI xs s k i)) ∧ ∃ n, w' = w.drewN n := by
  have HG := rng hr
  obtain ⟨t13, t14, t15, t16, t17⟩ := plan_tail hp h

  have BA := among_bd (base := 3) (i := s) (many := xs.getD 0 0) (apart := shard xs) (by omega) (by have := HG.w; omega) (by have := HG.sh; omega)
  have BD : -1 ≤ atI xs s ∧ atI xs s ≤ 1000000000000 := BA
  have BB := among_bd (base := 3) (i := k) (many := xs.getD 1 0) (apart := 1 + slots xs) (by omega) (by have := HG.l; omega) (by have := HG.s; omega)
  have BM : -1 ≤ mapI xs s k ∧ mapI xs s k ≤ 1000000000000 := by
    have h1 : mapI xs s k ≤ 1000000000000 := by
      unfold mapI withinI
      split
      · omega
      · have g1 : atI xs s ≤ 100000000 := by
          unfold atI amongI
          split
          · omega
          · have h2 : s * shard xs ≤ 64 * shard xs := Int.mul_le_mul_of_nonneg_right (by have := HG.w; omega) (by have := HG.sh; omega)
            have := HG.sh
            omega
        have g2 : amongI 3 k (xs.getD 1 0) (1 + slots xs) ≤ 100000000 := by
          unfold amongI
          split
          · omega
          · have h2 : k * (1 + slots xs) ≤ 8 * (1 + slots xs) := Int.mul_le_mul_of_nonneg_right (by have := HG.l; omega) (by have := HG.s; omega)
            have := HG.s
            omega
        omega
    exact ⟨(within_bd BD BB).1, h1⟩
  have BS := among_bd (base := 1) (i := i) (many := slots xs) (apart := 1) (by omega) (by have := HG.s; omega) (by omega)
  have HT := Lib.hid (fun q : Nat => Map_c (w := w.drewN q) hp h hr s k)
  have HA := Lib.hid (among_c 1 i (slots xs) 1 (by omega) (by have := HG.s; omega) (by omega))
  have HW := Lib.hid (within_c (mapI xs s k) (amongI 1 i (slots xs) 1) BM (by omega))
  clear BA BD BB BM BS
  unfold slotI
  clear HG hp hr h
  generalize amongI 1 i (slots xs) 1 = y at *
  generalize mapI xs s k = z at *
  generalize slots xs = u at *
  clear t14 t15 t16 t17
  go_enter Try.func42, Try.ntmps42
  go_wp2_with fail
  go_quiet (first | (go_at_call 41; exact Calls.quiet_of (HT.out _)) | (go_at_call 73; exact Calls.quiet_of_same ((HA.out _).mono fun e w' h => ⟨h.1, h.2.symm⟩)) | (go_at_call 72; exact Calls.quiet_of_same ((HW.out _).mono fun e w' h => ⟨h.1, h.2.symm⟩)))
  go_wp2_with fail
  go_ret
  exact ⟨rfl, _, rfl⟩

set_option maxRecDepth 100000 in
set_option maxHeartbeats 1000000 in
theorem node_c {xs : List Int} {p : Nat} {w : World} (hp : IsPlan w p xs) (h : xs.length = 13) (hr : Rgt xs) (n j : Int) (hj : 0 ≤ j ∧ j ≤ 10) : Calls Try.prog 74 #[.pointer (some ⟨p, 0, none⟩), .int .i64 n, .int .i64 j] w fun e w' => e = .returned (.int .i64 (nodeI xs n j)) ∧ ∃ n, w' = w.drewN n := by
  have HG := rng hr
  obtain ⟨t13, t14, t15, t16, t17⟩ := plan_tail hp h
  have c3 := plan_cfg hp h 3 (by omega)
  have BB := among_bd (base := nodes xs) (i := n) (many := xs.getD 3 0) (apart := 4) (by have := HG.nd; omega) (by have := HG.n; omega) (by omega)
  have HA := Lib.hid (among_c (nodes xs) n (xs.getD 3 0) 4 (by have := HG.nd; omega) (by have := HG.n; omega) (by omega))
  have HW := Lib.hid (within_c (amongI (nodes xs) n (xs.getD 3 0) 4) j (by omega) (by omega))
  clear BB hj
  unfold nodeI
  clear HG hp hr h
  generalize amongI (nodes xs) n (xs.getD 3 0) 4 = y at *
  generalize nodes xs = u at *
  generalize xs.getD 3 0 = v at *
  clear t13 t14 t16 t17
  go_enter Try.func74, Try.ntmps74
  go_wp2_with fail
  go_quiet (first | (go_at_call 73; exact Calls.quiet_of_same ((HA.out _).mono fun e w' h => ⟨h.1, h.2.symm⟩)) | (go_at_call 72; exact Calls.quiet_of_same ((HW.out _).mono fun e w' h => ⟨h.1, h.2.symm⟩)))
  go_wp2_with fail
  go_ret
  exact ⟨rfl, _, rfl⟩

set_option maxRecDepth 100000 in
set_option maxHeartbeats 1000000 in
theorem ticket_c {xs : List Int} {p : Nat} {w : World} (hp : IsPlan w p xs) (h : xs.length = 13) (hr : Rgt xs) (n j : Int) (hj : 0 ≤ j ∧ j ≤ 10) : Calls Try.prog 75 #[.pointer (some ⟨p, 0, none⟩), .int .i64 n, .int .i64 j] w fun e w' => e = .returned (.int .i64 (ticketI xs n j)) ∧ ∃ n, w' = w.drewN n := by
  have HG := rng hr
  obtain ⟨t13, t14, t15, t16, t17⟩ := plan_tail hp h
  have c4 := plan_cfg hp h 4 (by omega)
  have BB := among_bd (base := tickets xs) (i := n) (many := xs.getD 4 0) (apart := 3) (by have := HG.tk; omega) (by have := HG.t; omega) (by omega)
  have HA := Lib.hid (among_c (tickets xs) n (xs.getD 4 0) 3 (by have := HG.tk; omega) (by have := HG.t; omega) (by omega))
  have HW := Lib.hid (within_c (amongI (tickets xs) n (xs.getD 4 0) 3) j (by omega) (by omega))
  clear BB hj
  unfold ticketI
  clear HG hp hr h
  generalize amongI (tickets xs) n (xs.getD 4 0) 3 = y at *
  generalize tickets xs = u at *
  generalize xs.getD 4 0 = v at *
  clear t13 t14 t15 t17
  go_enter Try.func75, Try.ntmps75
  go_wp2_with fail
  go_quiet (first | (go_at_call 73; exact Calls.quiet_of_same ((HA.out _).mono fun e w' h => ⟨h.1, h.2.symm⟩)) | (go_at_call 72; exact Calls.quiet_of_same ((HW.out _).mono fun e w' h => ⟨h.1, h.2.symm⟩)))
  go_wp2_with fail
  go_ret
  exact ⟨rfl, _, rfl⟩

set_option maxRecDepth 100000 in
set_option maxHeartbeats 1000000 in
theorem Conn_c {xs : List Int} {p : Nat} {w : World} (hp : IsPlan w p xs) (h : xs.length = 13) (hr : Rgt xs) (n : Int) : Calls Try.prog 50 #[.pointer (some ⟨p, 0, none⟩), .int .i64 n] w fun e w' => e = .returned (.int .i64 (connI xs n)) ∧ ∃ n, w' = w.drewN n := by
  have HG := rng hr
  obtain ⟨t13, t14, t15, t16, t17⟩ := plan_tail hp h
  have c7 := plan_cfg hp h 7 (by omega)
  have HA := Lib.hid (among_c (conns xs) n (xs.getD 7 0) 1 (by have := HG.cn; omega) (by have := HG.c; omega) (by omega))
  unfold connI
  clear HG hp hr h
  generalize conns xs = u at *
  generalize xs.getD 7 0 = v at *
  clear t13 t14 t15 t16
  go_enter Try.func50, Try.ntmps50
  go_wp2_with fail
  go_quiet (first | (go_at_call 73; exact Calls.quiet_of_same ((HA.out _).mono fun e w' h => ⟨h.1, h.2.symm⟩)))
  go_wp2_with fail
  go_ret
  exact ⟨rfl, _, rfl⟩

set_option maxRecDepth 100000 in
set_option maxHeartbeats 600000 in
theorem State_c {xs : List Int} {p : Nat} {w : World} (hp : IsPlan w p xs) (h : xs.length = 13) (hr : Rgt xs) (n : Int) : Calls Try.prog 43 #[.pointer (some ⟨p, 0, none⟩), .int .i64 n] w fun e w' => e = .returned (.int .i64 (nodeI xs n 0)) ∧ ∃ n, w' = w.drewN n := by
  have H1 := Lib.hid (node_c hp h hr n 0 (by omega))
  clear hp hr h
  go_enter Try.func43, Try.ntmps43
  go_wp2_with fail
  refine H1.out.mono ?_
  rintro e w' ⟨rfl, q, rfl⟩
  go_wp2_with fail
  go_ret
  exact ⟨rfl, _, rfl⟩

set_option maxRecDepth 100000 in
set_option maxHeartbeats 600000 in
theorem Home_c {xs : List Int} {p : Nat} {w : World} (hp : IsPlan w p xs) (h : xs.length = 13) (hr : Rgt xs) (n : Int) : Calls Try.prog 44 #[.pointer (some ⟨p, 0, none⟩), .int .i64 n] w fun e w' => e = .returned (.int .i64 (nodeI xs n 1)) ∧ ∃ n, w' = w.drewN n := by
  have H1 := Lib.hid (node_c hp h hr n 1 (by omega))
  clear hp hr h
  go_enter Try.func44, Try.ntmps44
  go_wp2_with fail
  refine H1.out.mono ?_
  rintro e w' ⟨rfl, q, rfl⟩
  go_wp2_with fail
  go_ret
  exact ⟨rfl, _, rfl⟩

set_option maxRecDepth 100000 in
set_option maxHeartbeats 600000 in
theorem User_c {xs : List Int} {p : Nat} {w : World} (hp : IsPlan w p xs) (h : xs.length = 13) (hr : Rgt xs) (n : Int) : Calls Try.prog 45 #[.pointer (some ⟨p, 0, none⟩), .int .i64 n] w fun e w' => e = .returned (.int .i64 (nodeI xs n 2)) ∧ ∃ n, w' = w.drewN n := by
  have H1 := Lib.hid (node_c hp h hr n 2 (by omega))
  clear hp hr h
  go_enter Try.func45, Try.ntmps45
  go_wp2_with fail
  refine H1.out.mono ?_
  rintro e w' ⟨rfl, q, rfl⟩
  go_wp2_with fail
  go_ret
  exact ⟨rfl, _, rfl⟩

set_option maxRecDepth 100000 in
set_option maxHeartbeats 600000 in
theorem NodeLink_c {xs : List Int} {p : Nat} {w : World} (hp : IsPlan w p xs) (h : xs.length = 13) (hr : Rgt xs) (n : Int) : Calls Try.prog 46 #[.pointer (some ⟨p, 0, none⟩), .int .i64 n] w fun e w' => e = .returned (.int .i64 (nodeI xs n 3)) ∧ ∃ n, w' = w.drewN n := by
  have H1 := Lib.hid (node_c hp h hr n 3 (by omega))
  clear hp hr h
  go_enter Try.func46, Try.ntmps46
  go_wp2_with fail
  refine H1.out.mono ?_
  rintro e w' ⟨rfl, q, rfl⟩
  go_wp2_with fail
  go_ret
  exact ⟨rfl, _, rfl⟩

set_option maxRecDepth 100000 in
set_option maxHeartbeats 600000 in
theorem Key_c {xs : List Int} {p : Nat} {w : World} (hp : IsPlan w p xs) (h : xs.length = 13) (hr : Rgt xs) (n : Int) : Calls Try.prog 47 #[.pointer (some ⟨p, 0, none⟩), .int .i64 n] w fun e w' => e = .returned (.int .i64 (ticketI xs n 0)) ∧ ∃ n, w' = w.drewN n := by
  have H1 := Lib.hid (ticket_c hp h hr n 0 (by omega))
  clear hp hr h
  go_enter Try.func47, Try.ntmps47
  go_wp2_with fail
  refine H1.out.mono ?_
  rintro e w' ⟨rfl, q, rfl⟩
  go_wp2_with fail
  go_ret
  exact ⟨rfl, _, rfl⟩

set_option maxRecDepth 100000 in
set_option maxHeartbeats 600000 in
theorem Time_c {xs : List Int} {p : Nat} {w : World} (hp : IsPlan w p xs) (h : xs.length = 13) (hr : Rgt xs) (n : Int) : Calls Try.prog 48 #[.pointer (some ⟨p, 0, none⟩), .int .i64 n] w fun e w' => e = .returned (.int .i64 (ticketI xs n 1)) ∧ ∃ n, w' = w.drewN n := by
  have H1 := Lib.hid (ticket_c hp h hr n 1 (by omega))
  clear hp hr h
  go_enter Try.func48, Try.ntmps48
  go_wp2_with fail
  refine H1.out.mono ?_
  rintro e w' ⟨rfl, q, rfl⟩
  go_wp2_with fail
  go_ret
  exact ⟨rfl, _, rfl⟩

set_option maxRecDepth 100000 in
set_option maxHeartbeats 600000 in
theorem TicketLink_c {xs : List Int} {p : Nat} {w : World} (hp : IsPlan w p xs) (h : xs.length = 13) (hr : Rgt xs) (n : Int) : Calls Try.prog 49 #[.pointer (some ⟨p, 0, none⟩), .int .i64 n] w fun e w' => e = .returned (.int .i64 (ticketI xs n 2)) ∧ ∃ n, w' = w.drewN n := by
  have H1 := Lib.hid (ticket_c hp h hr n 2 (by omega))
  clear hp hr h
  go_enter Try.func49, Try.ntmps49
  go_wp2_with fail
  refine H1.out.mono ?_
  rintro e w' ⟨rfl, q, rfl⟩
  go_wp2_with fail
  go_ret
  exact ⟨rfl, _, rfl⟩
end Go.Proofs.Ytnkcekgjppkbpaa.Plan
