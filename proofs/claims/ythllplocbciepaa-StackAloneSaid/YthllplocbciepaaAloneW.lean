/- Layer 8, StackAlone: the walk. -/
import Derived.Test.YthllplocbciepaaAlone8b
import Derived.Deep.DeepCutAuto
namespace Go.Proofs.Ythllplocbciepaa.Kod.Eight
open Go.RowKit Go.Proofs.Ythllplocbciepaa Go.Proofs.Ythllplocbciepaa.Cell Go.Proofs.Ythllplocbciepaa.Wd
set_option linter.unusedVariables false
set_option linter.unusedSimpArgs false

theorem upto_one (k : Nat) : ∀ u ∈ upto k, u.oneCell' = true := fun u hu => by
  unfold upto at hu
  obtain ⟨i, _, rfl⟩ := List.mem_map.1 hu
  rfl
set_option maxRecDepth 100000 in
set_option maxHeartbeats 400000 in
theorem alone_far (N : Int) (A : Option Addr) (n c : Nat) (hnb : (n : Int) ≤ 9223372036854775807) (h : (60 : Int) < (n : Int)) (w : World) :
    Calls Try.prog 12 #[.int .u8 N, .slice A n c] w fun e w' => e = .returned (.bool true) ∧ Made w w' := by
  go_enter Try.func12, Try.ntmps12
  go_wp2_with fail
  refine (speaks_c _).mono ?_
  rintro e w0 ⟨rfl, hm0⟩
  have HM0 := Lib.hid hm0
  clear hm0
  go_wp2_with fail
  refine (speaks_c _).mono ?_
  rintro e w1 ⟨rfl, hm1⟩
  have HM1 := Lib.hid (Made.trans HM0.out hm1)
  clear hm1
  go_wp2_with fail
  go_ret
  exact ⟨rfl, HM1.out⟩
set_option maxRecDepth 100000 in
set_option maxHeartbeats 2000000 in
theorem alone_near (N n c : Nat) (A : Option Addr) (l : List Bool) (hN256 : N < 256) (hn60 : n ≤ 60) (hn : Hid (n = l.length)) (w : World) (hl : Hid (RdV w w.heap.size A (l.map Value.bool))) :
    Calls Try.prog 12 #[.int .u8 (N : Int), .slice A n c] w fun e w' => e = .returned (.bool true) ∧ Made w w' := by
  have HFR : Hid (∀ (n : Nat), n ≤ 100 → ∀ w, Calls Try.prog 50 #[.int .i64 (n : Int)] w fun e w' => ∃ a b, e = .returned (.tuple #[stk8 a, .bool true]) ∧ Arena w' a b 0 (List.replicate (1 + n) 0) ∧ w.heap.size ≤ a ∧ w.heap.size ≤ b ∧ Made w w') := fun n hn w => fresh_c n hn w
  have i60 : (n : Int) ≤ 60 := by omega
  have n256 : (N : Int) < 256 := by omega
  have HE := Lib.hid elem_int
  go_enter Try.func12, Try.ntmps12
  go_wp2_with fail
  refine (speaks_c _).mono ?_
  rintro e w1 ⟨rfl, hm1⟩
  have HM1 := Lib.hid hm1
  clear hm1
  go_wp2_with fail
  obtain ⟨k, hk, hk30⟩ : ∃ k : Nat, (N : Int) % 30 = (k : Int) ∧ k < 30 := ⟨N % 30, by omega, by omega⟩
  rw [hk]
  refine (HFR.out k (by omega) _).mono ?_
  rintro e w2 ⟨a, b, rfl, hA, hwa, hwb, hm2⟩
  have HA := Lib.hid hA
  have HM2 := Lib.hid (Made.trans HM1.out hm2)
  have hwa' := Nat.le_trans HM1.out.size hwa
  have hwb' := Nat.le_trans HM1.out.size hwb
  clear hA hm2 HFR hwa hwb hk HM1
  go_wp2_with fail
  obtain ⟨WW, hWW⟩ : ∃ WW, WW = w2.alloc (.cells #[.pointer (some ⟨a, 0, none⟩), .int .i64 0, .func (.func 76) #[] #[]] 81) := ⟨_, rfl⟩
  have HWW := Lib.hid hWW
  have HH0 : Hid (H1 w2.heap.size true WW (WW.alloc (.cells #[.slice none 0 0, .pointer none, .bool false, .bool true, .bool false] 88)) 0 (.slice none 0 0)) := H1.start (by rw [hWW]; simp only [World.size_alloc])
  replace HH0 : Hid (H1 w2.heap.size true WW ((w2.alloc (.cells #[.pointer (some ⟨a, 0, none⟩), .int .i64 0, .func (.func 76) #[] #[]] 81)).alloc (.cells #[.slice none 0 0, .pointer none, .bool false, .bool true, .bool false] 88)) 0 (.slice none 0 0)) := by
    have := HH0.out
    show H1 _ _ _ _ _ _
    rw [← hWW]
    exact this
  clear hWW
  go_loopw [39] (fun iv wr => ∃ (t : Nat) (hv : Value), iv = .int .i64 (t : Int) ∧ t ≤ k ∧ Hid (H1 w2.heap.size true WW wr t hv)) (fun iv _ => (k - intOf iv).toNat)
  case atStart => exact ⟨0, _, rfl, by omega, HH0⟩
  case round =>
    obtain ⟨t, hv, rfl, ht, HL⟩ := hrel
    by_cases hlt : t < k
    · obtain ⟨Ah, ch, rfl, k0, hrd⟩ := HL.out.read
      have i1 : (t : Int) < (k : Int) := by omega
      have HSZ := HL.out.sz
      clear hrd
      go_wp2_with (at_builtin; (refine wpList_app _ rfl (.tmp 46) (.tmp 48) 32 rfl (w2.heap.size + 1 + 1) 3 (.int .i64 0) 8 HE.out (.slice Ah t ch) t (upto t) (by simp [Act.eval, Act.put]) (World.ownsRow.alloc HL.out.hr _) (some ⟨wr.heap.size, 0, none⟩) 1 1 [.int .i64 (t : Int)] (by simp [Act.eval, Act.put]) (Reads.row (cs := #[.int .i64 (t : Int)]) (heap_alloc_new wr _) rfl) (by simp [Value.oneCell']) (by unfold maxLen; omega) (by omega) (by simp only [World.size_alloc]; omega) ?_; intro A5 c5 w5 hown hgrow _; obtain ⟨HL5, f1, f2⟩ := HL.out.hand hown hgrow; have HH5 := Lib.hid HL5; clear HL5 hown hgrow))
      go_roundw
      case rel => exact ⟨t + 1, _, by go_num, by omega, HH5⟩
      case measure => simp [intOf]; omega
    · obtain rfl : t = k := by omega
      obtain ⟨Ah, ch, rfl, k0, hrd⟩ := HL.out.read
      have HRD := Lib.hid hrd
      have hsz : w2.heap.size + 1 < wr.heap.size := HL.out.sz
      clear hrd
      go_wp2_with (at_builtin; (refine wpList_app _ rfl (.tmp 53) (.tmp 57) 32 rfl wr.heap.size 3 (.int .i64 0) 8 HE.out (.slice (some ⟨wr.heap.size, 0, none⟩) 0 0) 0 [] (by simp [Act.eval, Act.put]) (World.ownsRow_made _ _ _ (Nat.le_refl _) (by unfold maxLen; omega) rfl) Ah t ch (upto t) (by simp [Act.eval, Act.put]) (reads_later HRD.out) (upto_one t) (by unfold maxLen; omega) (by omega) (by simp only [World.size_alloc]; omega) ?_; intro A5 c5 w5 hown hgrow _; have HOW := Lib.hid hown; have HGR := Lib.hid hgrow; clear hown hgrow))
      have HAL0 : Hid (Alo a b w.heap.size w2.heap.size 0 [] (xb t) (.slice none 0 0) (.slice A5 (0 + t) c5) w w5) := by
        have h1 := HL.out
        rw [HWW.out] at h1
        exact Alo.begin hk30 HA.out HM2.out ⟨hwa', hwb', HM2.out.size⟩ h1 HGR.out (by have := HOW.out; simpa using this)
      clear HOW HGR HRD HL k0 HH0 HWW hsz
      rw [Nat.zero_add] at HAL0
      obtain ⟨wo, rfl⟩ : ∃ wo : World, wo = wr := ⟨_, rfl⟩
      go_loopw [10, 11, 61] (fun mv hv iv wr => ∃ (r : Nat) (Am : Option Addr) (nm cm : Nat) (Ah : Option Addr) (nh ch : Nat) (s : List Int) (x : W8), mv = .slice Am nm cm ∧ hv = .slice Ah nh ch ∧ iv = .int .i64 (r : Int) ∧ r ≤ n ∧ Hid (Alo a b w.heap.size w2.heap.size r s x (.slice Am nm cm) (.slice Ah nh ch) w wr)) (fun _ _ iv _ => (n - intOf iv).toNat)
      case atStart => exact ⟨0, _, _, _, _, _, _, _, _, rfl, rfl, rfl, by omega, HAL0⟩
      case round =>
        obtain ⟨r, Am, nm, cm, Ah, nh, ch, s, x, rfl, rfl, rfl, hr, HAL⟩ := hrel
        by_cases hlt : r < n
        · have hr60 : r < 60 := by omega
          have hrl : r < l.length := by have := hn.out; omega
          obtain ⟨pp, hpp⟩ : ∃ pp, pp = l[r] := ⟨_, rfl⟩
          obtain ⟨d, rfl, hdb, hdc⟩ := hl.out.later HAL.out.bel r (.bool pp) (by rw [hpp]; simp [hrl])
          obtain ⟨⟨c0, c1, hc⟩, HCODE⟩ := HAL.out.go pp
          obtain ⟨s0, s1, s2⟩ := HAL.out.stk
          obtain ⟨hnm, hnh, hdim⟩ := HAL.out.dims
          have hlt2 : w2.heap.size < wr.heap.size := Go.block_lt_of_cell s0
          have k3 : wr.cell? ⟨w2.heap.size + 1, 3, none⟩ = some (.bool x.bare) := by rw [cell_of_row _ _ _ _ _ _ hc]; rfl
          have z3 : wr.frozen? ⟨w2.heap.size + 1, 3, none⟩ = false := frozen_of_row _ _ _ _ _ hc
          obtain ⟨bb, hbb⟩ : ∃ bb, bb = decide (s = []) := ⟨_, rfl⟩
          have hb : ((nm : Int) == 0) = bb := by
            rw [hbb]
            cases s with
            | nil => simp at hnm; simp [hnm]
            | cons i t2 => simp at hnm; simp; omega
          have HNM := Lib.hid hnm
          have HNH := Lib.hid hnh
          have HBB := Lib.hid hbb
          have i0 : (0 : Int) ≤ (r : Int) := by omega
          have i1 : (r : Int) < (n : Int) := by omega
          clear hpp hc HAL HAL0 hnm hnh hbb hdb hrl
          go_wp2_with fail
          refine HCODE.out.mono ?_
          rintro e w3 ⟨v, rfl, hv, HNEW⟩
          clear HCODE k3 z3 s0 s1 s2 hlt2 hdc
          go_wp2_with fail
          refine HNEW.out.mono ?_
          rintro e w4 ⟨tb, rfl, ⟨c2, c3, b0, b1, hc⟩, HAFT⟩
          have k3 : w4.cell? ⟨w2.heap.size + 1, 3, none⟩ = some (.bool b1) := by rw [cell_of_row _ _ _ _ _ _ hc]; rfl
          have z3 : w4.frozen? ⟨w2.heap.size + 1, 3, none⟩ = false := frozen_of_row _ _ _ _ _ hc
          rw [← HBB.out] at HAFT
          clear HNEW hc
          go_upto_if 82 with fail
          clear k3 z3 hb
          generalize w4.setCell ⟨w2.heap.size + 1, 3, none⟩ (.bool bb) = w5 at *
          cases pp with
          | true =>
            cases s with
            | nil =>
              obtain rfl : nm = 0 := by have := HNM.out; simpa using this
              have HMO : Hid (mo true [] x.hands = ([], x.hands)) := rfl
              go_wp2_with fail
              refine (Pop8_none _ _ _).mono ?_
              rintro e w5' ⟨rfl, rfl⟩
              go_wp2_with fail
              refine (HAFT.out.fin hr60 HMO.out).mono ?_
              rintro e w6 ⟨rfl, x', HALO, hhx, cw⟩
              obtain ⟨A6, c6, ch6, HSM⟩ := HALO.out.same1
              clear HAFT HMO HALO hhx
              go_wp2_with fail
              refine HSM.out.mono ?_
              rintro e w7 ⟨rfl, ⟨t0, t1, t2⟩, HAL7⟩
              clear HSM cw ch6
              go_wp2_with fail
              refine HAL7.out.lists.mono ?_
              rintro e w8 ⟨A8, c8, rfl, HSM8⟩
              clear HAL7 t0 t1 t2
              go_wp2_with fail
              refine HSM8.out.mono ?_
              rintro e w9 ⟨rfl, HAL9⟩
              clear HSM8
              go_wp2_with fail
              go_roundw
              case rel => exact ⟨r + 1, _, _, _, _, _, _, _, _, rfl, rfl, by go_num, by omega, HAL9⟩
              case measure => simp [intOf]; omega
            | cons i t2 =>
              obtain ⟨q, rfl⟩ : ∃ q, nm = q + 1 := ⟨t2.length, by have := HNM.out; simpa using this⟩
              obtain ⟨m1, m2, m3, m4⟩ := HAFT.out.model
              obtain ⟨dm, rfl, hdm⟩ := m2.2 0 _ rfl
              obtain ⟨g1, g2, g3, g4⟩ := HAFT.out.hands
              have e0 : dm.add 0 = dm := by unfold Addr.add; split <;> simp_all
              rw [e0] at hdm
              have HPOP := Lib.hid (Pop8_some dm q cm i w5 hdm (by omega))
              obtain ⟨A7, hA7⟩ : ∃ A7, A7 = (if cm = 1 then some dm else some (dm.add 1)) := ⟨_, rfl⟩
              have hq : q = t2.length := by simpa using m1
              have HAFT2 : Hid (Aft a b w.heap.size w2.heap.size r true (i :: t2) x tb t2 x.hands (.slice A7 q (cm - 1)) (.slice Ah nh ch) w w5) := by
                have h := HAFT.out.tail (A' := A7) (by
                  by_cases h : cm = 1
                  · left
                    exact List.length_eq_zero_iff.1 (by omega)
                  · right
                    rw [hA7, if_neg h]
                    rfl)
                rw [← hq] at h
                exact h
              rw [← hA7] at HPOP
              have HMO : Hid (mo true (i :: t2) x.hands = (t2, x.hands ++ [i])) := rfl
              clear m1 m2 m3 hdm HAFT hA7 hq g3 e0 HNM
              go_wp2_with fail
              refine HPOP.out.mono ?_
              rintro e w5' ⟨rfl, qd, hwd⟩
              have HMD : Hid (Made w5 w5') := by show Made _ _; rw [hwd]; exact Made.drewN _ _
              have HAFT3 := Lib.hid (HAFT2.out.later HMD.out)
              clear hwd HPOP HAFT2 HMD g1 g4 m4
              obtain ⟨g1, g2, g3, g4⟩ := HAFT3.out.hands
              have HROW := Lib.hid g3
              clear g3 g1
              go_wp2_with (at_builtin; (refine wpList_app _ rfl (.tmp 91) (.tmp 93) 32 rfl w.heap.size 3 (.int .i64 0) 8 HE.out (.slice Ah nh ch) nh (x.hands.map (Value.int .i64)) (by simp [Act.eval, Act.put]) (World.ownsRow.alloc HROW.out _) (some ⟨w5'.heap.size, 0, none⟩) 1 1 [.int .i64 i] (by simp [Act.eval, Act.put]) (Reads.row (cs := #[.int .i64 i]) (heap_alloc_new w5' _) rfl) (by simp [Value.oneCell']) (by unfold maxLen; omega) (by omega) (by simp only [World.size_alloc]; omega) ?_; intro A5b c5b w5b hown hgrow hat; have HAFT := Lib.hid (HAFT3.out.grow hgrow hown hat); clear hown hgrow hat))
              go_wp2_with fail
              refine (HAFT.out.fin hr60 HMO.out).mono ?_
              rintro e w6 ⟨rfl, x', HALO, hhx, cw⟩
              obtain ⟨A6, c6, ch6, HSM⟩ := HALO.out.same1
              clear HAFT HMO HALO hhx
              go_wp2_with fail
              refine HSM.out.mono ?_
              rintro e w7 ⟨rfl, ⟨t0, t1, t2⟩, HAL7⟩
              clear HSM cw ch6
              go_wp2_with fail
              refine HAL7.out.lists.mono ?_
              rintro e w8 ⟨A8, c8, rfl, HSM8⟩
              clear HAL7 t0 t1 t2
              go_wp2_with fail
              refine HSM8.out.mono ?_
              rintro e w9 ⟨rfl, HAL9⟩
              clear HSM8
              go_wp2_with fail
              go_roundw
              case rel => exact ⟨r + 1, _, _, _, _, _, _, _, _, rfl, rfl, by go_num, by omega, HAL9⟩
              case measure => simp [intOf]; omega
          | false =>
            cases hlast : x.hands.getLast? with
            | none =>
              have hnil : x.hands = [] := by simpa using hlast
              obtain rfl : nh = 0 := by have := HNH.out; rw [hnil] at this; simpa using this
              have HMO : Hid (mo false s x.hands = (s, x.hands)) := by show _ = _; unfold mo; simp [hlast]
              clear hlast hnil
              go_wp2_with fail
              refine (HAFT.out.fin hr60 HMO.out).mono ?_
              rintro e w6 ⟨rfl, x', HALO, hhx, cw⟩
              obtain ⟨A6, c6, ch6, HSM⟩ := HALO.out.same1
              clear HAFT HMO HALO hhx
              go_wp2_with fail
              refine HSM.out.mono ?_
              rintro e w7 ⟨rfl, ⟨t0, t1, t2⟩, HAL7⟩
              clear HSM cw ch6
              go_wp2_with fail
              refine HAL7.out.lists.mono ?_
              rintro e w8 ⟨A8, c8, rfl, HSM8⟩
              clear HAL7 t0 t1 t2
              go_wp2_with fail
              refine HSM8.out.mono ?_
              rintro e w9 ⟨rfl, HAL9⟩
              clear HSM8
              go_wp2_with fail
              go_roundw
              case rel => exact ⟨r + 1, _, _, _, _, _, _, _, _, rfl, rfl, by go_num, by omega, HAL9⟩
              case measure => simp [intOf]; omega
            | some i =>
              obtain ⟨g1, g2, g3, g4⟩ := HAFT.out.hands
              have hne : x.hands ≠ [] := fun e => by rw [e] at hlast; simp at hlast
              obtain ⟨q, rfl⟩ : ∃ q, nh = q + 1 := ⟨nh - 1, by have := List.length_pos_iff.2 hne; omega⟩
              obtain ⟨m1, m2, m3, m4⟩ := HAFT.out.model
              have hrd := reads_own g3
              obtain ⟨dh, rfl, hdh⟩ := hrd.2 q (.int .i64 i) (by
                rw [List.getLast?_eq_getElem?] at hlast
                have e : x.hands.length - 1 = q := by omega
                rw [e] at hlast
                simp [hlast])
              have HPUSH := Lib.hid (Push8_c Am nm cm s i w5 m2 (by omega))
              have HNX : Hid (∀ (A7 : Option Addr) (c7 : Nat) (w6 : World), w6.ownsRow w5.heap.size 3 1 (.slice A7 (nm + 1) c7) (nm + 1) ((i :: s).map (Value.int .i64)) → Made w5 w6 → Aft a b w.heap.size w2.heap.size r false s x tb (i :: s) x.hands.dropLast (.slice A7 (nm + 1) c7) (.slice (some dh) q ch) w w6) := by
                show ∀ (A7 : Option Addr) (c7 : Nat) (w6 : World), _
                intro A7 c7 w6 hrow hm
                have hs1 : nm + 1 = (i :: s).length := by simp [m1]
                rw [hs1] at hrow ⊢
                exact (HAFT.out.turn hm hrow).cut hlast
              have HMO : Hid (mo false s x.hands = (i :: s, x.hands.dropLast)) := by show _ = _; unfold mo; simp [hlast]
              have hsl := fun w1 => run_cut_to (some dh) (n := q + 1) (c := ch) (k := q) (by omega) w1
              have hw : IntKind.i64.wrap (((q + 1 : Nat) : Int) - 1) = (q : Int) := by rw [IntKind.wrap_i64]; omega
              have q0 : (0 : Int) ≤ (q : Int) := by omega
              have q1 : (q : Int) < ((q + 1 : Nat) : Int) := by omega
              have q2 : q ≤ ch := by omega
              clear hlast hne g1 g3 m1 m2 m3 hrd HAFT HNH HNM
              go_wp2_with fail
              refine HPUSH.out.mono ?_
              rintro e w6b ⟨A7, c7, rfl, hrow, hm⟩
              have HAFT := Lib.hid (HNX.out A7 c7 w6b hrow hm)
              clear hrow hm HPUSH HNX hdh
              go_wp2_with fail
              refine (HAFT.out.fin hr60 HMO.out).mono ?_
              rintro e w6 ⟨rfl, x', HALO, hhx, cw⟩
              obtain ⟨A6, c6, ch6, HSM⟩ := HALO.out.same1
              clear HAFT HMO HALO hhx
              go_wp2_with fail
              refine HSM.out.mono ?_
              rintro e w7 ⟨rfl, ⟨t0, t1, t2⟩, HAL7⟩
              clear HSM cw ch6
              go_wp2_with fail
              refine HAL7.out.lists.mono ?_
              rintro e w8 ⟨A8, c8, rfl, HSM8⟩
              clear HAL7 t0 t1 t2
              go_wp2_with fail
              refine HSM8.out.mono ?_
              rintro e w9 ⟨rfl, HAL9⟩
              clear HSM8
              go_wp2_with fail
              go_roundw
              case rel => exact ⟨r + 1, _, _, _, _, _, _, _, _, rfl, rfl, by go_num, by omega, HAL9⟩
              case measure => simp [intOf]; omega
        · obtain rfl : r = n := by omega
          have HF := Lib.hid HAL.out.bel
          go_wp2_with fail
          go_ret
          exact ⟨rfl, HF.out⟩
theorem alone (a0 : Int) (v : Value) (l : List Bool) (w : World) (h0 : (Lit.int .u8 a0).wf = true) (hv : SlB w v l) : Calls Try.prog 12 #[.int .u8 a0, v] w fun e w' => e = .returned (.bool true) ∧ Made w w' := by
  obtain ⟨N, rfl, hN⟩ := u8_of h0
  obtain ⟨A, c, rfl, h1, h2, h3⟩ := hv
  unfold maxLen at h2
  by_cases hm : 60 < l.length
  · exact alone_far _ A _ _ (by omega) (by omega) w
  · exact alone_near N _ _ A l hN (by omega) (Lib.hid rfl) w (Lib.hid h3)
end Go.Proofs.Ythllplocbciepaa.Kod.Eight
