/- Package knelllaw02, walked: CellPlays. -/
import Derived.Test.YtnkcekgjppkbpaaLaw2d
namespace Go.Proofs.Ytnkcekgjppkbpaa.Law2
open Go.RowKit Go.Proofs.Ytnkcekgjppkbpaa Go.Proofs.Ytnkcekgjppkbpaa.Cell Go.Proofs.Ytnkcekgjppkbpaa.Ref2
set_option linter.unusedVariables false
set_option linter.unusedSimpArgs false

def U64s (xs : List Int) : Prop := ∀ z ∈ xs, 0 ≤ z ∧ z < 18446744073709551616
/-- What holds at the head of a round. -/
structure Play (w wr : World) (a b b7 m k : Nat) : Prop where
  ex : ∃ (xs : List Int) (cnt : Int) (A : Option Addr) (c : Nat), xs.length = m ∧ U64s xs ∧ 0 ≤ cnt ∧ cnt ≤ (k : Int) ∧ Arena wr a b cnt xs ∧ Rd .u64 wr wr.heap.size A xs ∧
    (∀ p : Addr, A = some p → p.block ≠ a ∧ p.block ≠ b ∧ p.block ≠ b7) ∧ wr.heap[b7]? = some (.cells #[.slice A m c, .int .i64 cnt] 71 (0, 0))
  md : Made w wr
  ab : w.heap.size ≤ a ∧ w.heap.size ≤ b ∧ w.heap.size ≤ b7 ∧ b7 ≠ a ∧ b7 ≠ b

theorem Rd.alloc {k : IntKind} {w : World} {A : Option Addr} {xs : List Int} (h : Rd k w w.heap.size A xs) (o : Obj) : Rd k (w.alloc o) (w.alloc o).heap.size A xs :=
  (h.later (Below.alloc (Below.refl _ _) (Nat.le_refl _) _)).more (by simp)
theorem now_u64 {kind old v was : Int} (hv : 0 ≤ v ∧ v < 18446744073709551616) (hw : 0 ≤ was ∧ was < 18446744073709551616) : 0 ≤ now kind old v was ∧ now kind old v was < 18446744073709551616 := by
  unfold now
  split
  · exact hv
  · split
    · split
      · exact hv
      · exact hw
    · split
      · rw [IntKind.wrap_u64]; omega
      · exact hw
theorem u64s_set {xs : List Int} (h : U64s xs) (i : Nat) {v : Int} (hv : 0 ≤ v ∧ v < 18446744073709551616) : U64s (xs.set i v) := fun z hz => by
  rcases List.mem_or_eq_of_mem_set hz with h1 | h1
  · exact h z h1
  · rw [h1]; exact hv

/-- Both sides do the same. -/
theorem both {xs : List Int} {m : Nat} {cnt : Int} {a b : Nat} (hl : xs.length = m) (hm : m ≤ 40) (hu : U64s xs) (c0 : 0 ≤ cnt) (c1 : cnt ≤ 80) (x : Acc) (hx : x.Wf) (A : Option Addr) (c : Nat) :
    ∃ (ys : List Int) (cnt2 vl : Int) (ok : Bool), ys.length = m ∧ U64s ys ∧ 0 ≤ cnt2 ∧ cnt2 ≤ cnt + 1 ∧
      (∀ w : World, Rd .u64 w w.heap.size A xs → Calls Try.prog 52 #[.agg #[.slice A m c, .int .i64 cnt], .int .i64 (kd x.kind), .int .i64 x.i, .int .u64 x.old, .int .u64 x.v] w (DoPost A w ys cnt2 vl ok)) ∧
      (∀ w : World, Arena w a b cnt xs → Calls Try.prog 53 #[.pointer (some ⟨a, 0, none⟩), .agg #[.int .i64 x.kind, .int .i64 x.i, .int .u64 x.old, .int .u64 x.v]] w (DoP 0 a b w cnt2 ys vl ok)) := by
  have hkd : 0 ≤ kd x.kind ∧ kd x.kind ≤ 4 := by unfold kd; split <;> omega
  by_cases hi : 0 ≤ x.i ∧ x.i < (m : Int)
  · obtain ⟨i, hxi⟩ := Int.eq_ofNat_of_zero_le hi.1
    have him : i < xs.length := by omega
    have hb := hu _ (List.getElem_mem him)
    refine ⟨xs.set i (now (kd x.kind) x.old x.v xs[i]), cnt + 1, val (kd x.kind) xs[i], isOk (kd x.kind) x.old xs[i], by simpa using hl, u64s_set hu i (now_u64 hx.v0 hb), by omega, by omega, fun w hr => ?_, fun w hA => ?_⟩
    · rw [hxi]
      exact Do_some A m c cnt (kd x.kind) i x.old x.v xs[i] xs hl.symm (by omega) (by omega) c0 (by omega) w hr (fun _ => rfl) hkd
    · rw [hxi]
      exact do_some hA (by omega) x.kind i x.old x.v xs[i] him (fun _ => rfl) hb
  · refine ⟨xs, cnt, 0, false, hl, hu, c0, by omega, fun w hr => ?_, fun w hA => ?_⟩
    · exact Do_none A m c cnt (kd x.kind) x.i x.old x.v xs hl.symm (by omega) (by omega) w hr
    · exact do_none hA (by omega) x.kind x.i x.old x.v (by omega)

theorem Play.later {w wr w' : World} {a b b7 m k : Nat} (h : Play w wr a b b7 m k) (hm : Made wr w') : Play w w' a b b7 m k := by
  obtain ⟨⟨xs, cnt, A, c, h1, h2, h3, h4, h5, h6, h7, h8⟩, hmd, hab⟩ := h
  exact ⟨⟨xs, cnt, A, c, h1, h2, h3, h4, h5.later hm, (h6.later hm).more hm.size, h7, (hm.block _ (Array.getElem?_eq_some_iff.1 h8).1).trans h8⟩, Made.trans hmd hm, hab⟩
theorem Made.cell' {w w' : World} (m : Made w w') {a : Addr} {v : Value} (h : w.cell? a = some v) : w'.cell? a = some v := cell_later m h
theorem keepP {w w' : World} {a a' : Addr} {v v' : Value} (h : Hid (∀ w' : World, Made w w' → w'.cell? a = some v ∧ w'.cell? a' = some v')) (m : Made w w') : w'.cell? a = some v ∧ w'.cell? a' = some v' ∧ Made w w' := ⟨(h.out w' m).1, (h.out w' m).2, m⟩
theorem len_m {w : World} {a b : Nat} {c : Int} {xs : List Int} {m : Nat} (hn : Hid (m = xs.length)) (h : Arena w a b c xs) (h2 : m ≤ 1048576) :
    Calls Try.prog 35 #[.pointer (some ⟨a, 0, none⟩)] w fun e w' => e = .returned (.int .i64 (m : Int)) ∧ w = w' := by
  have := Len_c h (by rw [← hn.out]; exact h2)
  rw [← hn.out] at this
  exact this
theorem rd_later {k : IntKind} {w w' : World} {A : Option Addr} {xs : List Int} (h : Rd k w w.heap.size A xs) (m : Made w w') : Rd k w' w'.heap.size A xs := (h.later m).more m.size
theorem rd_far {k : IntKind} {w w' : World} {B B' : Nat} {A : Option Addr} {xs : List Int} (h : Rd k w B A xs) (hb : ∀ p : Addr, A = some p → p.block < B → w'.heap[p.block]? = w.heap[p.block]?) (hB : B ≤ B') : Rd k w' B' A xs := fun i hi => by
  obtain ⟨a, h1, h2, h3⟩ := h i hi
  refine ⟨a, h1, Nat.lt_of_lt_of_le h2 hB, ?_⟩
  rw [← h3]
  exact World.cell?_of_block (by rw [add_block]; exact hb a h1 h2)

theorem set_arena {wr w3 : World} {a b b7 : Nat} {cnt : Int} {xs : List Int} (h : Arena wr a b cnt xs) (m : Made wr w3) (h1 : b7 ≠ a) (h2 : b7 ≠ b) (u v : Value) (o : Obj) : Arena (((w3.setCell ⟨b7, 0, none⟩ u).setCell ⟨b7, 1, none⟩ v).alloc o) a b cnt xs :=
  (Arena.put_far (Arena.put_far (h.later m) h1 h2 0 u) h1 h2 1 v).later (Below.alloc (Below.refl _ _) (Nat.le_refl _) _)

theorem set_play {w wr w3 w5 : World} {a b b7 m k : Nat} {cnt cnt2 vl : Int} {ok : Bool} {ys : List Int} {A7 A8 : Option Addr} {c7 c8 : Nat} {o : Obj} {e : Ending} (hyl : ys.length = m) (hyu : U64s ys) (h0 : 0 ≤ cnt2) (hk : cnt2 ≤ ((k + 1 : Nat) : Int))
    (hab : w.heap.size ≤ a ∧ w.heap.size ≤ b ∧ w.heap.size ≤ b7 ∧ b7 ≠ a ∧ b7 ≠ b) (hmr : Made w wr) (hM3 : Made wr w3) (h73 : w3.heap[b7]? = some (.cells #[.slice A7 m c7, .int .i64 cnt] 71 (0, 0)))
    (hap : ∀ p : Addr, A7 = some p → p.block ≠ a ∧ p.block ≠ b ∧ p.block ≠ b7) (hA8 : A8 = A7 ∨ ∃ p : Addr, A8 = some p ∧ (wr.alloc o).heap.size ≤ p.block) (hR8 : Rd .u64 w3 w3.heap.size A8 ys) (hb7 : b7 < wr.heap.size)
    (ha : a < wr.heap.size) (hb : b < wr.heap.size)
    (hD : DoP 0 a b (((w3.setCell ⟨b7, 0, none⟩ (.slice A8 m c8)).setCell ⟨b7, 1, none⟩ (.int .i64 cnt2)).alloc (.cells #[.slice A8 m c8, .int .i64 cnt2] 71)) cnt2 ys vl ok e w5) :
    e = .returned (.tuple #[.int .u64 vl, .bool ok]) ∧ Play w w5 a b b7 m (k + 1) ∧ Rd .u64 w5 w5.heap.size A8 ys ∧ w5.cell? ⟨b7, 0, none⟩ = some (.slice A8 m c8) ∧ w5.cell? ⟨b7, 1, none⟩ = some (.int .i64 cnt2) ∧ Arena w5 a b cnt2 ys := by
  obtain ⟨he, hA5, hs5, hos, htp, hou, hbl⟩ := hD
  have hs3 := hM3.size
  rw [World.size_alloc, size_setCell, size_setCell] at hs5
  have hW : ∀ j, j < w3.heap.size → j ≠ b7 → (((w3.setCell ⟨b7, 0, none⟩ (.slice A8 m c8)).setCell ⟨b7, 1, none⟩ (.int .i64 cnt2)).alloc (.cells #[.slice A8 m c8, .int .i64 cnt2] 71)).heap[j]? = w3.heap[j]? := fun j hj hne => by
    rw [alloc_old _ _ _ (by rw [size_setCell, size_setCell]; exact hj), Cell.heap_setCell_other _ _ _ _ _ hne, Cell.heap_setCell_other _ _ _ _ _ hne]
  have hfar : ∀ p : Addr, A8 = some p → p.block ≠ a ∧ p.block ≠ b ∧ p.block ≠ b7 := fun p hp => by
    rcases hA8 with h | ⟨q, h, hq⟩
    · exact hap p (by rw [← h]; exact hp)
    · rw [h] at hp
      injection hp with hp
      subst hp
      rw [World.size_alloc] at hq
      omega
  have h75 : w5.heap[b7]? = some (.cells #[.slice A8 m c8, .int .i64 cnt2] 71 (0, 0)) := by
    rw [hbl b7 (by rw [World.size_alloc, size_setCell, size_setCell]; omega) hab.2.2.2.1 hab.2.2.2.2, alloc_old _ _ _ (by rw [size_setCell, size_setCell]; omega),
      setCell_eq_setRow _ _ _ _ _ _ _ (by rw [setCell_eq_setRow _ _ _ _ _ _ _ h73]; exact heap_setRow_same _ _ _ _ _ _ h73), heap_setRow_same _ _ _ _ _ _ (by rw [setCell_eq_setRow _ _ _ _ _ _ _ h73]; exact heap_setRow_same _ _ _ _ _ _ h73)]
    rfl
  have hR5 : Rd .u64 w5 w5.heap.size A8 ys := rd_far hR8 (fun p hp hl => by
    obtain ⟨g1, g2, g3⟩ := hfar p hp
    rw [hbl p.block (by rw [World.size_alloc, size_setCell, size_setCell]; omega) g1 g2, hW _ hl g3]) (by omega)
  have hMw : Made w w5 := by
    have hm3 := Made.trans hmr hM3
    have hws := hmr.size
    exact ⟨hos.trans hm3.os, htp.trans hm3.tape, hou.trans hm3.output, by have := hm3.size; omega, fun j hj => by
      rw [hbl j (by rw [World.size_alloc, size_setCell, size_setCell]; omega) (by omega) (by omega), hW j (by omega) (by omega)]
      exact hm3.block j hj⟩
  exact ⟨he, ⟨⟨ys, cnt2, A8, c8, hyl, hyu, h0, hk, hA5, hR5, hfar, h75⟩, hMw, hab⟩, hR5, cell_of_row _ _ _ _ _ _ h75, cell_of_row _ _ _ _ _ _ h75, hA5⟩

set_option maxRecDepth 100000 in
set_option maxHeartbeats 4000000 in
theorem plays_loop (m : Nat) (A : Option Addr) (n c : Nat) (l : List Acc) (hn : Hid (n = l.length)) (hn80 : n ≤ 80) (h1 : 1 ≤ m) (h40 : m ≤ 40) (w : World) (hl : Hid (RdA w w.heap.size A l)) (hwf : Hid (∀ z ∈ l, z.Wf)) :
    Calls Try.prog 10 #[.int .i64 (m : Int), .slice A n c] w fun e w' => e = .returned (.bool true) ∧ Made w w' := by
  have HN := Lib.hid (fun w : World => New_yes m h1 (by omega) w)
  have HRN := Lib.hid (fun w : World => RNew_yes m h1 (by omega) w)
  have m1 : ¬ (40 : Int) < (m : Int) := by omega
  have n1 : ¬ (80 : Int) < (n : Int) := by omega
  go_enter Try.func10, Try.ntmps10
  go_wp2_with fail
  refine (speaks_c _).mono ?_
  rintro e w0 ⟨rfl, hm0⟩
  go_wp2_with fail
  refine (HN.out _).mono ?_
  rintro e w1 ⟨rfl, hA1, hs1, hm1⟩
  have HA1 := Lib.hid hA1
  have hM1 := Made.trans hm0 hm1
  have hb0 := hm0.size
  clear hA1 hm0 hm1
  generalize hAd : w0.heap.size + 1 = ad at *
  have hadB : w.heap.size ≤ ad := by omega
  have hne := HA1.out.ne
  generalize w0.heap.size = bl at *
  have hs1' : bl + 2 ≤ w1.heap.size := by omega
  clear hs1
  go_wp2_with fail
  refine (HRN.out _).mono ?_
  rintro e w2 ⟨rfl, hM2, hrow⟩
  have HA2 := Lib.hid (HA1.out.later hM2)
  have hM2' := Made.trans hM1 hM2
  have hs2 := hM2.size
  have hlt := (Array.getElem?_eq_some_iff.1 hrow).1
  have HP : Hid (Play w (w2.alloc (.cells #[.slice (some ⟨w1.heap.size + 1, 0, none⟩) m m, .int .i64 0] 71)) ad bl w2.heap.size m 0) :=
    ⟨⟨List.replicate m 0, 0, some ⟨w1.heap.size + 1, 0, none⟩, m, by simp, fun z hz => by rw [(List.mem_replicate.1 hz).2]; omega, by omega, by omega, HA2.out.later (Below.alloc (Below.refl _ _) (Nat.le_refl _) _),
      Rd.alloc (Rd.row hrow (fun i hi => row_at' hi) hlt) _, fun p hp => by injection hp with hp; subst hp; refine ⟨?_, ?_, ?_⟩ <;> (show w1.heap.size + 1 ≠ _; omega), alloc_new _ _⟩, hM2'.alloc hM2'.size _, hadB, hb0, hM2'.size, by omega, by omega⟩
  clear HA1 HA2 hM1 hM2 hrow HN HRN
  go_wp2_with fail
  have hab := HP.out.ab
  generalize w2.heap.size = b7 at *
  go_loopw [53] (fun i wr => ∃ k : Nat, k ≤ n ∧ i = .int .i64 k ∧ Hid (Play w wr ad bl b7 m k)) (fun i _ => (n - intOf i).toNat)
  case atStart => exact ⟨0, by omega, rfl, HP⟩
  case round =>
    obtain ⟨k, hk, rfl, HPr⟩ := hrel
    clear HP hs2 hlt hM2' hs1'
    by_cases hkn : k < n
    · have hkl : k < l.length := by have := hn.out; omega
      obtain ⟨ad0, rfl, hadb, c0, c1, c2, c3⟩ := hl.out.later HPr.out.md k hkl
      have hxw := hwf.out _ (List.getElem_mem hkl)
      obtain ⟨x, hx⟩ : ∃ x, x = l[k] := ⟨_, rfl⟩
      rw [← hx] at c0 c1 c2 c3 hxw
      clear hx
      obtain ⟨⟨xs, cnt, A7, c7, hxl, hxu, hc0, hc1, hA, hR, hap, hb7⟩, hmr, _⟩ := HPr.out
      obtain ⟨ys, cnt2, vl, ok, hyl, hyu, hd0, hd1, hDo, hdo⟩ := both (a := ad) (b := bl) hxl h40 hxu hc0 (by omega) x hxw A7 c7
      have HA := Lib.hid hA
      have HR := Lib.hid hR
      have HAP := Lib.hid hap
      have HB7 := Lib.hid hb7
      have HYL := Lib.hid hyl
      have HYU := Lib.hid hyu
      have HDO := Lib.hid hDo
      have Hdo := Lib.hid hdo
      have b7lt : b7 < wr.heap.size := (Array.getElem?_eq_some_iff.1 hb7).1
      have adlt : ad < wr.heap.size := (Array.getElem?_eq_some_iff.1 hA.ha).1
      have bllt : bl < wr.heap.size := (Array.getElem?_eq_some_iff.1 hA.hb).1
      have e70 : wr.cell? ⟨b7, 0, none⟩ = some (.slice A7 m c7) := cell_of_row _ _ _ _ _ _ hb7
      have e71 : wr.cell? ⟨b7, 1, none⟩ = some (.int .i64 cnt) := cell_of_row _ _ _ _ _ _ hb7
      obtain ⟨xk, xi, xo, xv⟩ := x
      simp only at c0 c1 c2 c3 HDO Hdo
      have f1 : wr.cell? ⟨(ad0.add (k * 4)).block, (ad0.add (k * 4)).off + 1, none⟩ = some (.int .i64 xi) := c1
      have f2 : wr.cell? ⟨(ad0.add (k * 4)).block, (ad0.add (k * 4)).off + 2, none⟩ = some (.int .u64 xo) := c2
      have f3 : wr.cell? ⟨(ad0.add (k * 4)).block, (ad0.add (k * 4)).off + 3, none⟩ = some (.int .u64 xv) := c3
      clear c1 c2 c3
      clear hA hR hap hb7 hxl hxu hyl hyu hDo hdo hxw HPr
      have i0 : 0 ≤ (k : Int) := by omega
      have i1 : (k : Int) < (n : Int) := by omega
      have hkd : (xk < 0 ∧ kd xk = 4) ∨ (¬ xk < 0 ∧ 4 < xk ∧ kd xk = 4) ∨ (¬ xk < 0 ∧ ¬ 4 < xk ∧ kd xk = xk) := by unfold kd; split <;> omega
      rcases hkd with ⟨k1, ke⟩ | ⟨k1, k2, ke⟩ | ⟨k1, k2, ke⟩ <;> rw [ke] at HDO <;> clear ke
      all_goals
        go_wp2_with fail
        refine (HDO.out _ (Rd.alloc HR.out _)).mono ?_
        rintro e w3 ⟨A8, c8, hA8, he, hR8, hM8⟩
        rw [HYL.out] at he
        subst he
        have hM3 : Made wr w3 := Made.trans ((Made.refl wr).alloc (Nat.le_refl _) _) hM8
        have hs3 := hM8.size
        simp at hs3
        have hx3 : w3.heap[wr.heap.size]? = some (.cells #[.int .i64 xk, .int .i64 xi, .int .u64 xo, .int .u64 xv] 60 (0, 0)) := (hM8.block _ (by simp)).trans (alloc_new _ _)
        have h73 := (hM3.block _ b7lt).trans HB7.out
        have g70 : w3.cell? ⟨b7, 0, none⟩ = some (.slice A7 m c7) := cell_of_row _ _ _ _ _ _ h73
        have g71 : w3.cell? ⟨b7, 1, none⟩ = some (.int .i64 cnt) := cell_of_row _ _ _ _ _ _ h73
        have z70 : w3.frozen? ⟨b7, 0, none⟩ = false := frozen_of_row _ _ _ _ _ h73
        have z71 : w3.frozen? ⟨b7, 1, none⟩ = false := frozen_of_row _ _ _ _ _ h73
        have x0 : w3.cell? ⟨wr.heap.size, 0, none⟩ = some (.int .i64 xk) := cell_of_row _ _ _ _ _ _ hx3
        have x1 : w3.cell? ⟨wr.heap.size, 1, none⟩ = some (.int .i64 xi) := cell_of_row _ _ _ _ _ _ hx3
        have x2 : w3.cell? ⟨wr.heap.size, 2, none⟩ = some (.int .u64 xo) := cell_of_row _ _ _ _ _ _ hx3
        have x3 : w3.cell? ⟨wr.heap.size, 3, none⟩ = some (.int .u64 xv) := cell_of_row _ _ _ _ _ _ hx3
        have l1 : b7 < w3.heap.size := by omega
        have l2 : wr.heap.size < w3.heap.size := by omega
        have n7 : ¬ b7 = wr.heap.size := by omega
        have n7' : ¬ wr.heap.size = b7 := by omega
        have H73 := Lib.hid h73
        have HA8 := Lib.hid hA8
        have HR8 := Lib.hid hR8
        have HM3 := Lib.hid hM3
        clear h73 hA8 hR8 hM3 hM8 hx3
        go_wp2_with fail
        refine (Hdo.out _ (set_arena HA.out HM3.out hab.2.2.2.1 hab.2.2.2.2 _ _ _)).mono ?_
        rintro e w5 hD
        obtain ⟨he, HPl, HR5, e50, e51, hA5'⟩ := set_play (k := k) HYL.out HYU.out hd0 (by omega) hab hmr HM3.out H73.out HAP.out HA8.out HR8.out b7lt adlt bllt hD
        subst he
        have HP5 := Lib.hid HPl
        have HA5 := Lib.hid hA5'
        have HR5 := Lib.hid HR5
        have HYM : Hid (m = ys.length) := HYL.out.symm
        clear hD HPl hA5' g70 g71 z70 z71 x0 x1 x2 x3 c0 f1 f2 f3 e70 e71
        go_wp2_with fail
        have hA6 : Arena w5.drew ad bl cnt2 ys := HA5.out.later (Made.drewN w5 1)
        have hMd0 : Made w5 w5.drew := Made.drewN w5 1
        have b1 : m ≤ 1048576 := by omega
        have b2 : (m : Int) ≤ 9223372036854775807 := by omega
        have HK : Hid (∀ w' : World, Made w5 w' → w'.cell? ⟨b7, 0, none⟩ = some (.slice A8 m c8) ∧ w'.cell? ⟨b7, 1, none⟩ = some (.int .i64 cnt2)) := fun w' mk => ⟨cell_later mk e50, cell_later mk e51⟩
        go_region_held3 (fun w' => w'.cell? ⟨b7, 0, none⟩ = some (.slice A8 m c8) ∧ w'.cell? ⟨b7, 1, none⟩ = some (.int .i64 cnt2) ∧ Made w5 w') (exact keepP HK (by assumption)) (first | (go_at_call 35; refine (len_m HYM hA6 b1).mono ?_; rintro e w' ⟨rfl, rfl⟩) | (go_at_call 31; refine (Count_c hA6).mono ?_; rintro e w' ⟨rfl, rfl⟩) | (go_at_call 33; refine (all_n HYM hA6 b1).mono ?_; rintro e w33 ⟨rfl, hrow33, hM33⟩; have hMd33 := Made.trans hMd0 hM33) | (go_at_call 34; refine (same_c ys ys _ _ m m _ _ HYM HYM b2 b2 (Rd.row (xs := ys) hrow33 (fun i hi => row_at' hi) (Array.getElem?_eq_some_iff.1 hrow33).1) (rd_later HR5.out hMd33)).mono ?_; rintro e w34 ⟨rfl, hM34⟩; have hMd34 := Made.trans hMd33 hM34; rw [decide_eq_true rfl]))
        all_goals
          go_wp2_with fail
          go_roundw
          case rel => exact ⟨k + 1, by omega, by go_num, (Play.later HP5.out (And.right (And.right (by assumption))))⟩
          case measure => simp [intOf]; omega
    · obtain rfl : k = n := by omega
      have hmr := HPr.out.md
      go_wp2_with fail
      go_ret
      exact ⟨rfl, hmr⟩

set_option maxRecDepth 100000 in
set_option maxHeartbeats 400000 in
theorem plays_far (m : Int) (A : Option Addr) (n c : Nat) (hn : 80 < n) (hn' : (n : Int) ≤ 9223372036854775807) (w : World) :
    Calls Try.prog 10 #[.int .i64 m, .slice A n c] w fun e w' => e = .returned (.bool true) ∧ Made w w' := by
  have hn1 : 80 < (n : Int) := by omega
  go_enter Try.func10, Try.ntmps10
  go_wp2_with fail
  refine (speaks_c _).mono ?_
  rintro e w0 ⟨rfl, hm0⟩
  go_wp2_with fail
  refine (speaks_c _).mono ?_
  rintro e w1 ⟨rfl, hm1⟩
  go_wp2_with fail
  go_ret
  exact ⟨rfl, Made.trans hm0 hm1⟩
set_option maxRecDepth 100000 in
set_option maxHeartbeats 600000 in
theorem plays_no (m : Int) (A : Option Addr) (n c : Nat) (hn : n ≤ 80) (hm : m < 1 ∨ 1048576 < m) (w : World) :
    Calls Try.prog 10 #[.int .i64 m, .slice A n c] w fun e w' => e = .returned (.bool true) ∧ Made w w' := by
  have n1 : ¬ (80 : Int) < (n : Int) := by omega
  have HN := Lib.hid (fun w : World => New_no m hm w)
  have HRN := Lib.hid (fun w : World => RNew_no m hm w)
  clear hm
  go_enter Try.func10, Try.ntmps10
  go_wp2_with fail
  refine (speaks_c _).mono ?_
  rintro e w0 ⟨rfl, hm0⟩
  go_wp2_with fail
  refine (HN.out _).mono ?_
  rintro e w1 ⟨rfl, rfl⟩
  go_wp2_with fail
  refine (HRN.out _).mono ?_
  rintro e w2 ⟨rfl, hm2⟩
  go_wp2_with fail
  go_ret
  exact ⟨rfl, by have h := Made.trans hm0 hm2; exact h.alloc h.size _⟩
set_option maxRecDepth 100000 in
set_option maxHeartbeats 600000 in
theorem plays_big (m : Nat) (A : Option Addr) (n c : Nat) (hn : n ≤ 80) (h1 : 40 < m) (h2 : m ≤ 1048576) (w : World) :
    Calls Try.prog 10 #[.int .i64 (m : Int), .slice A n c] w fun e w' => e = .returned (.bool true) ∧ Made w w' := by
  have n1 : ¬ (80 : Int) < (n : Int) := by omega
  have m1 : (40 : Int) < (m : Int) := by omega
  have HN := Lib.hid (fun w : World => New_yes m (by omega) h2 w)
  have HRN := Lib.hid (fun w : World => RNew_yes m (by omega) h2 w)
  go_enter Try.func10, Try.ntmps10
  go_wp2_with fail
  refine (speaks_c _).mono ?_
  rintro e w0 ⟨rfl, hm0⟩
  go_wp2_with fail
  refine (HN.out _).mono ?_
  rintro e w1 ⟨rfl, hA1, hs1, hm1⟩
  clear hA1 hs1
  go_wp2_with fail
  refine (HRN.out _).mono ?_
  rintro e w2 ⟨rfl, hm2, hrow⟩
  clear hrow
  go_wp2_with fail
  go_ret
  exact ⟨rfl, by have h := Made.trans hm0 (Made.trans hm1 hm2); exact h.alloc h.size _⟩

theorem plays (n : Int) (v : Value) (l : List Acc) (w : World) (_ : (Lit.int .i64 n).wf = true) (hv : SlA w v l) :
    Calls Try.prog 10 #[.int .i64 n, v] w fun e w' => e = .returned (.bool true) ∧ Made w w' := by
  obtain ⟨A, c, rfl, _, hlc, hc, hr, hwf⟩ := hv
  by_cases h80 : l.length ≤ 80
  · by_cases hn : n < 1 ∨ 1048576 < n
    · exact plays_no n A l.length c h80 hn w
    · obtain ⟨m, rfl⟩ := Int.eq_ofNat_of_zero_le (show 0 ≤ n by omega)
      by_cases hm : m ≤ 40
      · exact plays_loop m A l.length c l rfl h80 (by omega) hm w hr hwf
      · exact plays_big m A l.length c h80 (by omega) (by omega) w
  · exact plays_far n A l.length c (by omega) (by unfold maxLen at hc; omega) w
end Go.Proofs.Ytnkcekgjppkbpaa.Law2
