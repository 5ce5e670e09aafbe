/- Work that is cut into steps: Finish and Run, in plain words. -/
import Derived.Test.YthllplocbciepaaCod4
namespace Go.Proofs.Ythllplocbciepaa.Cod
open Go.RowKit Go.Proofs.Ythllplocbciepaa Go.Proofs.Ythllplocbciepaa.Cell
set_option linter.unusedVariables false
set_option linter.unusedSimpArgs false
variable {S : Sys}

/-- Is nothing left of a task? -/
def Mach.over (M : Mach S) (i : Nat) : Bool := match M.ks[i]? with | none => true | some k => S.nil k
theorem Mach.step_over {M : Mach S} {i : Nat} (h : M.over i = true) : M.step i = M := by
  unfold Mach.over at h
  unfold Mach.step
  split <;> simp_all
theorem Mach.step_len (M : Mach S) (i : Nat) : (M.step i).ks.length = M.ks.length := by
  unfold Mach.step
  split
  · rfl
  · split <;> simp
/-- Steps of one task. -/
def Mach.fin (M : Mach S) (i : Nat) : Nat → Mach S
  | 0 => M
  | j + 1 => (M.fin i j).step i
theorem Mach.fin_len (M : Mach S) (i j : Nat) : (M.fin i j).ks.length = M.ks.length := by
  induction j with
  | zero => rfl
  | succ j ih => rw [Mach.fin, Mach.step_len, ih]
theorem Mach.fin_over {M : Mach S} {i j : Nat} (h : (M.fin i j).over i = true) : ∀ d, M.fin i (j + d) = M.fin i j
  | 0 => rfl
  | d + 1 => by
    show (M.fin i (j + d)).step i = _
    rw [Mach.fin_over h d, Mach.step_over h]

/-- A slice's cells, that never turn. -/
def Lies (S : Sys) (w : World) (L : Lay) (A : Option Addr) (vs : List Value) : Prop :=
  ∀ (i : Nat) (v : Value), vs[i]? = some v → ∃ a : Addr, A = some a ∧ a.block < w.heap.size ∧ ¬ Mut S L a.block ∧ w.cell? (a.add i) = some v
theorem Lies.later {w w' : World} {L L' : Lay} {A : Option Addr} {vs : List Value} (h : Lies S w L A vs) (e : Ext S w L w' L') : Lies S w' L' A vs := fun i v hi => by
  obtain ⟨a, rfl, h1, h2, h3⟩ := h i v hi
  have h4 := e.block a.block h1 h2
  refine ⟨a, rfl, Nat.lt_of_lt_of_le h1 e.size, h4.1, ?_⟩
  have hb : (a.add i).block = a.block := by unfold Addr.add; split <;> rfl
  unfold World.cell? at h3 ⊢
  rw [hb] at h3 ⊢
  rw [h4.2]
  exact h3

/-- What Finish gives. -/
def Finished (S : Sys) (m n : Nat) (M : Mach S) (i : Nat) (L : Lay) (w : World) (e : Ending) (w' : World) : Prop :=
  ∃ rs' L', e = .returned (.bool (M.over i)) ∧ Ext S w L w' L' ∧ Keeps w L w' L' ∧ Ready S m n M rs' L' w'
theorem over_at {M : Mach S} {i : Nat} {k : S.K} (h : M.ks[i]? = some k) : M.over i = S.nil k := by unfold Mach.over; rw [h]
set_option maxRecDepth 100000 in
set_option maxHeartbeats 1000000 in
theorem Finish_c {m n N : Nat} {M : Mach S} {rs : List Value} {L : Lay} {w : World} (h : Ready S (m + N) (n + 2 * N) M rs L w) {i t : Nat} (ht : L.ts[i]? = some t) (most : Int) (hN : ∀ j : Nat, (j : Int) < most → (M.fin i j).over i = false → j < N) :
    Calls Try.prog 45 #[.pointer (some ⟨t, 0, none⟩), .int .i64 most] w (Finished S m n (M.fin i most.toNat) i L w) := by
  have HR := Lib.hid h
  have HT := Lib.hid ht
  have HNN := Lib.hid hN
  have hil : i < M.ks.length := by rw [h.len, ← h.inv.nts]; exact (List.getElem?_eq_some_iff.1 ht).1
  have HIL := Lib.hid hil
  have hNb : (N : Int) < 4611686018427387904 := by
    have h1 := h.inv.fuel
    have h2 := h.inv.ar.c0
    omega
  clear h ht hN hil
  go_enter Try.func45, Try.ntmps45
  go_wp2_with fail
  go_loopw [5] (fun iv wr => ∃ (k : Nat) (rs' : List Value) (L' : Lay), k ≤ most.toNat ∧ k ≤ N ∧ iv = .int .i64 k ∧ Hid (Ready S (m + (N - k)) (n + 2 * (N - k)) (M.fin i k) rs' L' wr) ∧ Hid (Ext S w L wr L') ∧ Hid (Keeps w L wr L')) (fun iv _ => (most - intOf iv).toNat)
  case atStart => exact ⟨0, rs, L, by omega, by omega, rfl, HR, Lib.hid (Ext.refl _ _), Lib.hid (Keeps.refl _ _)⟩
  case round =>
    obtain ⟨k, rs', L', hk, hkN, rfl, HRk, HX, HTS⟩ := hrel
    have ht' : L'.ts[i]? = some t := by rw [HTS.out.ts]; exact HT.out
    obtain ⟨kk, hkk⟩ : ∃ kk, (M.fin i k).ks[i]? = some kk := ⟨_, List.getElem?_eq_getElem (by rw [Mach.fin_len]; exact HIL.out)⟩
    have HE := Lib.hid (Ended_c HRk.out ht' hkk)
    have HOV := Lib.hid (over_at hkk)
    by_cases hlt : (k : Int) < most
    · by_cases ho : S.nil kk = true
      · have HF : Hid (Finished S m n (M.fin i most.toNat) i L w (.returned (.bool true)) wr) := by
          have e : M.fin i most.toNat = M.fin i k := by
            have := Mach.fin_over (M := M) (i := i) (j := k) (by rw [HOV.out]; exact ho) (most.toNat - k)
            rw [show k + (most.toNat - k) = most.toNat by omega] at this
            exact this
          rw [e]
          exact ⟨rs', L', by rw [HOV.out, ho], HX.out, HTS.out, HRk.out.lower (by omega) (by omega)⟩
        rw [ho] at HE
        clear hkk ht' ho
        go_wp2_with fail
        refine HE.out.mono ?_
        rintro e w1 ⟨rfl, rfl⟩
        go_wp2_with fail
        refine HE.out.mono ?_
        rintro e w1 ⟨rfl, rfl⟩
        go_wp2_with fail
        go_ret
        exact HF.out
      · have ho' : S.nil kk = false := by simpa using ho
        have hkN2 : k < N := HNN.out k hlt (by rw [HOV.out]; exact ho')
        have hr2 : Ready S (m + (N - (k + 1)) + 1) (n + 2 * (N - (k + 1)) + 2) (M.fin i k) rs' L' wr := by
          have := HRk.out
          rw [show m + (N - k) = m + (N - (k + 1)) + 1 by omega, show n + 2 * (N - k) = n + 2 * (N - (k + 1)) + 2 by omega] at this
          exact this
        have HS := Lib.hid (Step_c hr2 ht' hkk)
        have HNX : Hid (∀ e w2, Stepped S (m + (N - (k + 1))) (n + 2 * (N - (k + 1))) (M.fin i k) i kk L' wr e w2 → ∃ b rs2 L2, e = .returned (.bool b) ∧ Hid (Ready S (m + (N - (k + 1))) (n + 2 * (N - (k + 1))) (M.fin i (k + 1)) rs2 L2 w2) ∧ Hid (Ext S w L w2 L2) ∧ Hid (Keeps w L w2 L2)) := by
          rintro e w2 ⟨rs2, L2, k2, _, rfl, hx, hts, hr⟩
          exact ⟨_, rs2, L2, rfl, hr, HX.out.trans hx, HTS.out.trans hts⟩
        rw [ho'] at HE
        have hkb : (k : Int) < 4611686018427387904 := by omega
        clear hkk ht' ho ho' hr2
        go_wp2_with fail
        refine HE.out.mono ?_
        rintro e w1 ⟨rfl, rfl⟩
        go_wp2_with fail
        refine HS.out.mono ?_
        rintro e w2 hst
        obtain ⟨b, rs2, L2, rfl, HR2, HX2, HTS2⟩ := HNX.out e w2 hst
        clear hst HNX HS HE
        go_wp2_with fail
        go_roundw
        case rel => exact ⟨k + 1, rs2, L2, by omega, by omega, by go_num, HR2, HX2, HTS2⟩
        case measure => simp [intOf]; omega
    · have HF : Hid (Finished S m n (M.fin i most.toNat) i L w (.returned (.bool (S.nil kk))) wr) := by
        have e : most.toNat = k := by omega
        rw [e]
        exact ⟨rs', L', by rw [HOV.out], HX.out, HTS.out, HRk.out.lower (by omega) (by omega)⟩
      clear hkk ht'
      generalize S.nil kk = bb at *
      go_wp2_with fail
      refine HE.out.mono ?_
      rintro e w1 ⟨rfl, rfl⟩
      go_wp2_with fail
      go_ret
      exact HF.out

/-- Tasks are picked: whether a pick does a step. -/
def Mach.may (M : Mach S) (p : Int) : Bool := decide (0 ≤ p) && decide (p < M.ks.length) && !M.over p.toNat
/-- A pick. -/
def Mach.pick (x : Mach S × Int) (p : Int) : Mach S × Int := if x.1.may p then (x.1.step p.toNat, x.2 + 1) else x
/-- Picks: what they come to, and how many steps were done. -/
def Mach.run (M : Mach S) (ps : List Int) : Mach S × Int := ps.foldl Mach.pick (M, 0)
theorem run_snoc (M : Mach S) (ps : List Int) {k : Nat} (h : k < ps.length) : M.run (ps.take (k + 1)) = Mach.pick (M.run (ps.take k)) ps[k] := by
  unfold Mach.run
  rw [List.take_succ_eq_append_getElem h, List.foldl_append]
  rfl
theorem pick_len (x : Mach S × Int) (p : Int) : (Mach.pick x p).1.ks.length = x.1.ks.length := by
  unfold Mach.pick
  split
  · exact Mach.step_len _ _
  · rfl
theorem run_len (M : Mach S) (ps : List Int) : (M.run ps).1.ks.length = M.ks.length := by
  have : ∀ (ps : List Int) (x : Mach S × Int), (ps.foldl Mach.pick x).1.ks.length = x.1.ks.length := by
    intro ps
    induction ps with
    | nil => exact fun x => rfl
    | cons p ps ih => exact fun x => by rw [List.foldl_cons, ih, pick_len]
  exact this ps (M, 0)
theorem run_count (M : Mach S) (ps : List Int) : 0 ≤ (M.run ps).2 ∧ (M.run ps).2 ≤ ps.length := by
  have : ∀ (ps : List Int) (x : Mach S × Int), x.2 ≤ (ps.foldl Mach.pick x).2 ∧ (ps.foldl Mach.pick x).2 ≤ x.2 + ps.length := by
    intro ps
    induction ps with
    | nil => exact fun x => by simp
    | cons p ps ih =>
      intro x
      have h1 := ih (Mach.pick x p)
      have h2 : x.2 ≤ (Mach.pick x p).2 ∧ (Mach.pick x p).2 ≤ x.2 + 1 := by unfold Mach.pick; split <;> simp <;> omega
      rw [List.foldl_cons, List.length_cons]
      omega
  have := this ps (M, 0)
  simpa [Mach.run] using this
/-- What Run gives. -/
def Ran (S : Sys) (m n : Nat) (x : Mach S × Int) (L : Lay) (w : World) (e : Ending) (w' : World) : Prop :=
  ∃ rs' L', e = .returned (.int .i64 x.2) ∧ Ext S w L w' L' ∧ Keeps w L w' L' ∧ Ready S m n x.1 rs' L' w'
set_option maxRecDepth 100000 in
set_option maxHeartbeats 1000000 in
theorem Run_c {m n : Nat} {M : Mach S} {rs : List Value} {L : Lay} {w : World} (ps : List Int) (h : Ready S (m + ps.length) (n + 2 * ps.length) M rs L w) {A A' : Option Addr} {N N' c c' : Nat} (hN : Hid (N = L.ts.length)) (hN' : Hid (N' = ps.length)) (hn : (N : Int) ≤ 9223372036854775807)
    (hl : Lies S w L A (L.ts.map fun t => .pointer (some ⟨t, 0, none⟩))) (hp : Lies S w L A' (ps.map (.int .i64))) :
    Calls Try.prog 39 #[.slice A N c, .slice A' N' c'] w (Ran S m n (M.run ps) L w) := by
  have HR := Lib.hid h
  have HL := Lib.hid hl
  have HP := Lib.hid hp
  have hNb : (N' : Int) < 4611686018427387904 := by
    have h1 := h.inv.fuel
    have h2 := h.inv.ar.c0
    have := hN'.out
    omega
  have HIL : Hid (M.ks.length = N) := by show _ = _; rw [h.len, ← h.inv.nts, hN.out]
  clear h hl hp
  go_enter Try.func39, Try.ntmps39
  go_wp2_with fail
  go_loopw [5, 10] (fun nv iv wr => ∃ (k : Nat) (q : Int) (rs' : List Value) (L' : Lay), k ≤ N' ∧ iv = .int .i64 k ∧ nv = .int .i64 q ∧ 0 ≤ q ∧ q ≤ k ∧ Hid (q = (M.run (ps.take k)).2) ∧ Hid (Ready S (m + (ps.length - k)) (n + 2 * (ps.length - k)) (M.run (ps.take k)).1 rs' L' wr) ∧ Hid (Ext S w L wr L') ∧ Hid (Keeps w L wr L')) (fun _ iv _ => (N' - intOf iv).toNat)
  case atStart => exact ⟨0, 0, rs, L, by omega, rfl, rfl, by omega, by omega, Lib.hid rfl, HR, Lib.hid (Ext.refl _ _), Lib.hid (Keeps.refl _ _)⟩
  case round =>
    obtain ⟨k, q, rs', L', hk, rfl, rfl, hq0, hq1, HQ, HRk, HX, HTS⟩ := hrel
    by_cases hlt : k < N'
    · have hkp : k < ps.length := by rw [← hN'.out]; exact hlt
      obtain ⟨ap, rfl, _, _, cp⟩ := HP.out.later HX.out k (.int .i64 ps[k]) (by simp [hkp])
      have HSN := Lib.hid (run_snoc M ps hkp)
      obtain ⟨p, hpp⟩ : ∃ p, p = ps[k] := ⟨_, rfl⟩
      rw [← hpp] at cp HSN
      have HML : Hid ((M.run (ps.take k)).1.ks.length = N) := by show _ = _; rw [run_len, HIL.out]
      have i0 : 0 ≤ (k : Int) := by omega
      have i1 : (k : Int) < (N' : Int) := by omega
      clear hpp
      by_cases hlow : p < 0
      · have HNX : Hid (M.run (ps.take (k + 1)) = M.run (ps.take k)) := by
          show _ = _
          rw [HSN.out]
          unfold Mach.pick Mach.may
          simp [show ¬ 0 ≤ p by omega]
        go_wp2_with fail
        go_roundw
        case rel => exact ⟨k + 1, q, rs', L', by omega, by go_num, rfl, hq0, by omega, (by show _ = _; rw [HNX.out]; exact HQ.out), (by show Ready _ _ _ _ _ _ _; rw [HNX.out]; exact HRk.out.lower (by omega) (by omega)), HX, HTS⟩
        case measure => simp [intOf]; omega
      · by_cases hhigh : (N : Int) ≤ p
        · have HNX : Hid (M.run (ps.take (k + 1)) = M.run (ps.take k)) := by
            show _ = _
            rw [HSN.out]
            unfold Mach.pick Mach.may
            rw [HML.out]
            simp [show ¬ p < N by omega]
          go_wp2_with fail
          go_roundw
          case rel => exact ⟨k + 1, q, rs', L', by omega, by go_num, rfl, hq0, by omega, (by show _ = _; rw [HNX.out]; exact HQ.out), (by show Ready _ _ _ _ _ _ _; rw [HNX.out]; exact HRk.out.lower (by omega) (by omega)), HX, HTS⟩
          case measure => simp [intOf]; omega
        · obtain ⟨i, rfl⟩ := Int.eq_ofNat_of_zero_le (show 0 ≤ p by omega)
          have hiN : i < N := by omega
          have hit : i < L'.ts.length := by rw [HTS.out.ts, ← hN.out]; exact hiN
          have hit2 : i < L.ts.length := by rw [← hN.out]; exact hiN
          obtain ⟨al, rfl, _, _, cl⟩ := HL.out.later HX.out i (.pointer (some ⟨L.ts[i], 0, none⟩)) (by simp [hit2])
          obtain ⟨t, htt⟩ : ∃ t, t = L.ts[i] := ⟨_, rfl⟩
          rw [← htt] at cl
          have ht' : L'.ts[i]? = some t := by rw [HTS.out.ts, List.getElem?_eq_getElem hit2, htt]
          obtain ⟨kk, hkk⟩ : ∃ kk, (M.run (ps.take k)).1.ks[i]? = some kk := ⟨_, List.getElem?_eq_getElem (by rw [HML.out]; exact hiN)⟩
          have HE := Lib.hid (Ended_c HRk.out ht' hkk)
          have HOV := Lib.hid (over_at hkk)
          have j0 : 0 ≤ (i : Int) := by omega
          have j1 : (i : Int) < (N : Int) := by omega
          have HMAY : Hid ((M.run (ps.take k)).1.may (i : Int) = !S.nil kk) := by
            show _ = _
            unfold Mach.may
            rw [HML.out]
            simp only [Int.toNat_natCast]
            rw [HOV.out]
            simp [hiN]
          by_cases ho : S.nil kk = true
          · have HNX : Hid (M.run (ps.take (k + 1)) = M.run (ps.take k)) := by
              show _ = _
              rw [HSN.out]
              unfold Mach.pick
              rw [HMAY.out, ho]
              rfl
            rw [ho] at HE
            clear hkk ht' ho htt
            go_wp2_with fail
            refine HE.out.mono ?_
            rintro e w1 ⟨rfl, rfl⟩
            go_wp2_with fail
            go_roundw
            case rel => exact ⟨k + 1, q, rs', L', by omega, by go_num, rfl, hq0, by omega, (by show _ = _; rw [HNX.out]; exact HQ.out), (by show Ready _ _ _ _ _ _ _; rw [HNX.out]; exact HRk.out.lower (by omega) (by omega)), HX, HTS⟩
            case measure => simp [intOf]; omega
          · have ho' : S.nil kk = false := by simpa using ho
            have HNX : Hid (M.run (ps.take (k + 1)) = ((M.run (ps.take k)).1.step i, (M.run (ps.take k)).2 + 1)) := by
              show _ = _
              rw [HSN.out]
              unfold Mach.pick
              rw [HMAY.out, ho']
              simp
            have hr2 : Ready S (m + (ps.length - (k + 1)) + 1) (n + 2 * (ps.length - (k + 1)) + 2) (M.run (ps.take k)).1 rs' L' wr := by
              have := HRk.out
              rw [show m + (ps.length - k) = m + (ps.length - (k + 1)) + 1 by omega, show n + 2 * (ps.length - k) = n + 2 * (ps.length - (k + 1)) + 2 by omega] at this
              exact this
            have HS := Lib.hid (Step_c hr2 ht' hkk)
            have HST : Hid (∀ e w2, Stepped S (m + (ps.length - (k + 1))) (n + 2 * (ps.length - (k + 1))) (M.run (ps.take k)).1 i kk L' wr e w2 → ∃ b rs2 L2, e = .returned (.bool b) ∧ Hid (Ready S (m + (ps.length - (k + 1))) (n + 2 * (ps.length - (k + 1))) (M.run (ps.take (k + 1))).1 rs2 L2 w2) ∧ Hid (Ext S w L w2 L2) ∧ Hid (Keeps w L w2 L2)) := by
              rintro e w2 ⟨rs2, L2, k2, _, rfl, hx, hts, hr⟩
              exact ⟨_, rs2, L2, rfl, by show Ready _ _ _ _ _ _ _; rw [HNX.out]; exact hr, HX.out.trans hx, HTS.out.trans hts⟩
            rw [ho'] at HE
            clear hkk ht' ho ho' hr2 htt
            go_wp2_with fail
            refine HE.out.mono ?_
            rintro e w1 ⟨rfl, rfl⟩
            go_wp2_with fail
            refine HS.out.mono ?_
            rintro e w2 hst
            obtain ⟨b, rs2, L2, rfl, HR2, HX2, HTS2⟩ := HST.out e w2 hst
            clear hst HST HS HE
            go_wp2_with fail
            go_roundw
            case rel => exact ⟨k + 1, q + 1, rs2, L2, by omega, by go_num, by go_num, by omega, by omega, (by show _ = _; rw [HNX.out, HQ.out]), HR2, HX2, HTS2⟩
            case measure => simp [intOf]; omega
    · have e : k = ps.length := by have := hN'.out; omega
      have HF : Hid (Ran S m n (M.run ps) L w (.returned (.int .i64 q)) wr) := by
        have h1 := HRk.out
        have h2 := HQ.out
        rw [List.take_of_length_le (by omega)] at h1 h2
        exact ⟨rs', L', by rw [h2], HX.out, HTS.out, h1.lower (by omega) (by omega)⟩
      clear e
      go_wp2_with fail
      go_ret
      exact HF.out
end Go.Proofs.Ythllplocbciepaa.Cod
