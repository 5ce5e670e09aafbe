/- Package knelllaw10, walked: WheelPlays. -/
import Derived.Test.YtndpkonihcebeaaPly10
import Derived.Test.YtndpkonihcebeaaOpenP
namespace Go.Proofs.Ytndpkonihcebeaa.Whl
open Go.RowKit Go.Proofs.Ytndpkonihcebeaa Go.Proofs.Ytndpkonihcebeaa.Cell Go.Proofs.Ytndpkonihcebeaa.Seq Go.Proofs.Ytndpkonihcebeaa.Num Go.Proofs.Ytndpkonihcebeaa.SetN Go.Proofs.Ytndpkonihcebeaa.Dig Go.Proofs.Ytndpkonihcebeaa.Bits
set_option linter.unusedVariables false
set_option linter.unusedSimpArgs false
variable {a b bl bs L S B N G H lo : Nat}

theorem nodup_len {α : Type} [DecidableEq α] : ∀ {l m : List α}, l.Nodup → (∀ x ∈ l, x ∈ m) → l.length ≤ m.length
  | [], m, _, _ => by simp
  | x :: r, m, h, hs => by
    obtain ⟨h1, h2⟩ := List.nodup_cons.1 h
    have hx := hs x List.mem_cons_self
    have := nodup_len (l := r) (m := m.erase x) h2 fun y hy => (List.mem_erase_of_ne (fun e => h1 (by rw [← e]; exact hy))).2 (hs y (List.mem_cons_of_mem _ hy))
    rw [List.length_erase_of_mem hx] at this
    have := List.length_pos_of_mem hx
    rw [List.length_cons]
    omega
theorem filter_two {α : Type} (p : α → Bool) : ∀ l : List α, (l.filter p).length + (l.filter fun x => !p x).length = l.length
  | [] => rfl
  | x :: r => by
    have := filter_two p r
    rw [List.filter_cons, List.filter_cons]
    cases p x <;> simp <;> omega
theorem Ply.listlen {now : Int} {l g : List Tk} {xs : List Int} {chs : Nat → Nat → List Nat} (h : Ply L S B now l g chs) (hw : Wst L S N xs chs) : (listOf L S chs).length ≤ l.length := by
  have hn := listOf_nodup hw
  have h2 : ((listOf L S chs).map fun x => x.1).length ≤ (l.map fun x => x.1.toNat).length := nodup_len hn fun t ht => by
    obtain ⟨x, hx, rfl⟩ := List.mem_map.1 ht
    obtain ⟨hv, hm⟩ := (mem_listOf hw.s1).1 hx
    obtain ⟨y, hy, e, _⟩ := (h.mem hv).1 hm
    exact List.mem_map.2 ⟨y, hy, by omega⟩
  rw [List.length_map, List.length_map] at h2
  exact h2
theorem Ply.gonelen {now to' : Int} {l : List Tk} {xs : List Int} {chs : Nat → Nat → List Nat} (h : Ply L S B now l [] chs) (hw : Wst L S N xs chs) : (lsL S (l.filter fun x => psR L B now to' x) (L + 1)).length ≤ (l.filter fun x => psR L B now to' x).length := by
  have hn := passG_nodup (cr := crOf now to' B) hw
  rw [h.gone hw.s1] at hn
  have h2 := nodup_len (m := (l.filter fun x => psR L B now to' x).map fun x => x.1.toNat) hn fun t ht => by
    obtain ⟨x, hx, rfl⟩ := List.mem_map.1 ht
    exact List.mem_map.2 ⟨x, mem_lsL hx, rfl⟩
  rw [List.length_map, List.length_map] at h2
  exact h2
/-- The document's wheel lies in a box. -/
abbrev OR (L B : Nat) (now : Int) (vl : Value) : Obj := .cells #[.int .i64 (L : Int), .int .i64 (B : Int), .int .i64 now, vl] 77 (0, 0)
structure PlF (a b bl bs G H lo n0 : Nat) : Prop where
  lt : a < lo ∧ b < lo ∧ bl < lo ∧ bs < lo ∧ G < lo ∧ H < lo
  ne : H ≠ a ∧ H ≠ b ∧ H ≠ bl ∧ H ≠ bs ∧ H ≠ G
  n0 : n0 ≤ H
/-- What holds between the law's calls. -/
structure PlS (a b bl bs L S B N G H lo : Nat) (w0 w : World) (c : Int) (xs : List Int) (chs : Nat → Nat → List Nat) (now : Int) (vl : Value) (l g : List Tk) : Prop where
  rest : Rest a b bl bs L S B N G w0 w c xs chs
  box : w.heap[H]? = some (OR L B now vl)
  tks : Tks lo w vl l
  ply : Ply L S B now l g chs
  lo_ : lo ≤ w.heap.size
theorem PlS.made {w0 w w' : World} {c now : Int} {xs : List Int} {chs : Nat → Nat → List Nat} {vl : Value} {l g : List Tk} (h : PlS a b bl bs L S B N G H lo w0 w c xs chs now vl l g) (m : Made w w') : PlS a b bl bs L S B N G H lo w0 w' c xs chs now vl l g :=
  ⟨h.rest.made m, (m.block _ (Array.getElem?_eq_some_iff.1 h.box).1).trans h.box, h.tks.made m, h.ply, Nat.le_trans h.lo_ m.size⟩
theorem PlS.cells {w0 w : World} {c now : Int} {xs : List Int} {chs : Nat → Nat → List Nat} {vl : Value} {l g : List Tk} (h : PlS a b bl bs L S B N G H lo w0 w c xs chs now vl l g) : w.cell? ⟨H, 0, none⟩ = some (.int .i64 (L : Int)) ∧ w.cell? ⟨H, 1, none⟩ = some (.int .i64 (B : Int)) ∧ w.cell? ⟨H, 2, none⟩ = some (.int .i64 now) ∧ w.cell? ⟨H, 3, none⟩ = some vl :=
  ⟨by rw [cell_of_row _ _ _ _ _ _ h.box]; rfl, by rw [cell_of_row _ _ _ _ _ _ h.box]; rfl, by rw [cell_of_row _ _ _ _ _ _ h.box]; rfl, by rw [cell_of_row _ _ _ _ _ _ h.box]; rfl⟩
theorem Rest.lows {w0 w : World} {c : Int} {xs : List Int} {chs : Nat → Nat → List Nat} (h : Rest a b bl bs L S B N G w0 w c xs chs) : a < w.heap.size ∧ b < w.heap.size ∧ bl < w.heap.size ∧ bs < w.heap.size ∧ G < w.heap.size :=
  ⟨h.lt.1, h.lt.2.1, (Array.getElem?_eq_some_iff.1 h.whe.env.l).1, (Array.getElem?_eq_some_iff.1 h.whe.env.s).1, h.lt.2.2⟩
/-- The box is written. -/
theorem Rest.turn {w0 w : World} {c : Int} {xs : List Int} {chs : Nat → Nat → List Nat} (h : Rest a b bl bs L S B N G w0 w c xs chs) (hf : PlF a b bl bs G H lo w0.heap.size) (cs : Array Value) : Rest a b bl bs L S B N G w0 (w.setRow H cs) c xs chs := by
  have k : ∀ j, j ≠ H → (w.setRow H cs).heap[j]? = w.heap[j]? := fun j hj => heap_setRow_other _ _ _ _ hj
  obtain ⟨n1, n2, n3, n4, n5⟩ := hf.ne
  exact ⟨⟨⟨(k _ n1.symm).trans h.whe.ar.ha, (k _ n2.symm).trans h.whe.ar.hb, h.whe.ar.ne, h.whe.ar.c0, h.whe.ar.c1⟩, ⟨(k _ n3.symm).trans h.whe.env.l, (k _ n4.symm).trans h.whe.env.s, h.whe.env.l1, h.whe.env.l5, h.whe.env.s1, h.whe.env.s2, h.whe.env.ap⟩, h.whe.wst, h.whe.sb, h.whe.b1, h.whe.b6, h.whe.n⟩,
    h.c0, Go.Proofs.Ytndpkonihcebeaa.Below.setRow h.bel hf.n0 _, (k _ n5.symm).trans h.row, h.ga, h.ab⟩
theorem setRow_size (w : World) (g : Nat) (cs : Array Value) : (w.setRow g cs).heap.size = w.heap.size := by simp [World.setRow]
/-- The box is turned to another wheel. -/
theorem PlS.turn {w0 w : World} {c now now' : Int} {xs : List Int} {chs' : Nat → Nat → List Nat} {vl vl' : Value} {l' g' : List Tk} (hR : Rest a b bl bs L S B N G w0 w c xs chs') (hb : w.heap[H]? = some (OR L B now vl)) (hf : PlF a b bl bs G H lo w0.heap.size) (ht : Tks lo w vl' l') (hp : Ply L S B now' l' g' chs') (hl : lo ≤ w.heap.size) :
    PlS a b bl bs L S B N G H lo w0 (w.setRow H #[.int .i64 (L : Int), .int .i64 (B : Int), .int .i64 now', vl']) c xs chs' now' vl' l' g' :=
  ⟨hR.turn hf _, heap_setRow_same _ _ _ _ _ _ hb, ht.but fun k hk => heap_setRow_other _ _ _ _ (by have := hf.lt; omega), hp, by rw [setRow_size]; exact hl⟩
theorem Told.turn {s : Nat} {w : World} {A : Option Addr} {cs : List Value} (h : Told s w A cs) (hs : H < s) (r : Array Value) : Told s (w.setRow H r) A cs := fun hn => by
  obtain ⟨g, cur, ty, rfl, hl, hh, hc⟩ := h hn
  exact ⟨g, cur, ty, rfl, hl, (heap_setRow_other _ _ _ _ (by omega)).trans hh, hc⟩
theorem cell_past9 {w w' : World} (p : Past a b w w') {g t : Nat} {v : Value} (h : w.cell? ⟨g, t, none⟩ = some v) (hg : g ≠ a ∧ g ≠ b) : w'.cell? ⟨g, t, none⟩ = some v :=
  (World.cell?_of_block (a := ⟨g, t, none⟩) (p.block g (Go.block_lt_of_cell h) hg.1 hg.2)).trans h
theorem Tks.shape {s : Nat} {w : World} {v : Value} {l : List Tk} (h : Tks s w v l) : ∃ A n cap, v = .slice A n cap := by
  obtain ⟨A, cap, rfl, _⟩ := h
  exact ⟨_, _, _, rfl⟩
theorem Tks.one {s : Nat} {w : World} {v : Value} {l : List Tk} (h : Tks s w v l) : v.oneCell' = true := by
  obtain ⟨A, cap, rfl, _⟩ := h
  rfl
theorem one4 {x y z v : Value} (hx : x.oneCell' = true) (hy : y.oneCell' = true) (hz : z.oneCell' = true) (hv : v.oneCell' = true) : (#[x, y, z, v] : Array Value).all (·.oneCell') = true := by
  simp [hx, hy, hz, hv]
theorem wheel_size : (Try.prog.info? 77).map (·.size) = some 4 := by kernel_rfl
set_option maxRecDepth 100000 in
set_option maxHeartbeats 2000000 in
theorem plays_c (a0 a1 a2 : Int) (A : Option Addr) (cap : Nat) (zs : List (Bool × Int)) (w : World) (h0 : 0 ≤ a0 ∧ a0 ≤ 255) (h1 : 0 ≤ a1 ∧ a1 ≤ 255) (h2 : 0 ≤ a2 ∧ a2 ≤ 4294967295) (hcap : zs.length ≤ cap) (hmax : cap ≤ maxLen) (hcell : ∀ (wr : World), Made w wr → ∀ (i : Nat) (p : Bool) (z : Int), zs[i]? = some (p, z) → ∃ d : Addr, A = some d ∧ wr.cell? (d.add (i * 2)) = some (.bool p) ∧ wr.cell? ((d.add (i * 2)).add 1) = some (.int .u32 z)) (hz : ∀ z ∈ zs, 0 ≤ z.2 ∧ z.2 < 4294967296) :
    Calls Try.prog 8 #[.int .u8 a0, .int .u8 a1, .int .u32 a2, .slice A zs.length cap] w fun e w' => e = .returned (.bool true) ∧ Made w w' := by
  have HC := Lib.hid hcell
  have HZ := Lib.hid hz
  have HN := Lib.hid (And.intro hcap hmax)
  clear hcell hz hcap hmax
  obtain ⟨n, hn⟩ : ∃ n, n = zs.length := ⟨_, rfl⟩
  rw [← hn]
  have HL := Lib.hid hn
  clear hn
  by_cases hbig : 50 < n
  · have i1 : (50 : Int) < (n : Int) := by omega
    go_enter Try.func8, Try.ntmps8
    go_wp2_with fail
    refine (speaks_c _).mono ?_
    rintro e w1 ⟨rfl, hm1⟩
    have HM1 := Lib.hid hm1
    clear hm1
    go_wp2_with fail
    refine (speaks_c _).mono ?_
    rintro e w2 ⟨rfl, hm2⟩
    have HM2 := Lib.hid hm2
    clear hm2
    go_wp2_with fail
    go_ret
    exact ⟨rfl, Made.trans HM1.out HM2.out⟩
  · have i1 : (n : Int) ≤ 50 := by omega
    go_enter Try.func8, Try.ntmps8
    go_wp2_with fail
    refine (speaks_c _).mono ?_
    rintro e w1 ⟨rfl, hm1⟩
    have HM1 := Lib.hid hm1
    clear hm1
    go_wp2_with fail
    obtain ⟨L, eL, hL1, hL5⟩ : ∃ L : Nat, 1 + a0 % 5 = (L : Int) ∧ 1 ≤ L ∧ L ≤ 5 := ⟨(1 + a0 % 5).toNat, by omega, by omega, by omega⟩
    obtain ⟨B, eB, hB1, hB4⟩ : ∃ B : Nat, 1 + a1 % 4 = (B : Int) ∧ 1 ≤ B ∧ B ≤ 4 := ⟨(1 + a1 % 4).toNat, by omega, by omega, by omega⟩
    rw [eL, eB]
    clear eL eB
    obtain ⟨S, hS, hS2, hS16⟩ : ∃ S : Nat, S = 2 ^ B ∧ 2 ≤ S ∧ S ≤ 16 := ⟨2 ^ B, rfl, Nat.pow_le_pow_right (n := 2) (i := 1) (by omega) hB1, Nat.pow_le_pow_right (n := 2) (j := 4) (by omega) hB4⟩
    have HS := Lib.hid hS
    clear hS
    refine (fresh_law L B S 20 hL1 (by omega) (by omega) hB1 HS.out hS2 (by omega) (by omega) w1).mono ?_
    rintro e w2 ⟨a, b, bl, bs, rfl, hw2, ha, hb, hm2⟩
    have ha' := Nat.le_trans HM1.out.size ha
    have hb' := Nat.le_trans HM1.out.size hb
    have HR := Lib.hid (Rest.start hw2 (Int.le_refl 0) ha' hb' (Made.trans HM1.out hm2) rfl)
    clear hw2 ha hb hm2 ha' hb'
    go_upto_region 5 with fail
    obtain ⟨nw, hnw, hn0, hn1⟩ : ∃ nw, a2 / 16 = nw ∧ 0 ≤ nw ∧ nw ≤ 268435455 := ⟨a2 / 16, rfl, by omega, by omega⟩
    have HNW := Lib.hid hnw
    clear hnw
    have hLB : L * B ≤ 20 := Nat.mul_le_mul hL5 hB4
    have hLB2 : B * L ≤ 20 := by rw [Nat.mul_comm]; exact hLB
    generalize hgw : w2.alloc _ = w3 at HR ⊢
    clear hgw
    generalize w2.heap.size = G at HR ⊢
    go_upto_region 6 with fail
    rw [HNW.out]
    have hlows := HR.out.lows
    have hbelw := HR.out.bel.size
    have hm4 : Made w3 (w3.alloc (.cells #[.int .i64 (L : Int), .int .i64 (B : Int), .int .i64 nw, .slice none 0 0] 77)) := (Made.refl _).alloc (Nat.le_refl _) _
    have hb4 : (w3.alloc (.cells #[.int .i64 (L : Int), .int .i64 (B : Int), .int .i64 nw, .slice none 0 0] 77)).heap[w3.heap.size]? = some (OR L B nw (.slice none 0 0)) := heap_alloc_new _ _
    have hs4 : (w3.alloc (.cells #[.int .i64 (L : Int), .int .i64 (B : Int), .int .i64 nw, .slice none 0 0] 77)).heap.size = w3.heap.size + 1 := World.size_alloc _ _
    generalize w3.alloc _ = w4 at hm4 hb4 hs4 ⊢
    generalize w3.heap.size = H at hlows hbelw hb4 hs4 ⊢
    have HF : Hid (PlF a b bl bs G H (H + 1) w.heap.size) := ⟨⟨by omega, by omega, by omega, by omega, by omega, by omega⟩, ⟨by omega, by omega, by omega, by omega, by omega⟩, hbelw⟩
    have HW4 : Hid (PlS a b bl bs L S B (1 + L * (1 + S) + 20) G H (H + 1) w w4 0 (List.replicate (1 + L * (1 + S) + 20) 0) (fun _ _ => []) nw (.slice none 0 0) [] []) := ⟨HR.out.made hm4, hb4, ⟨none, 0, rfl, Nat.le_refl _, Nat.zero_le _, fun c => absurd rfl c⟩, Ply.empty nw, by omega⟩
    clear hlows hbelw hm4 hb4 hs4 HR HNW
    generalize H + 1 = lo at HF HW4
    go_wp2_with fail
    go_loopw [14, 59] (fun nv i wr => ∃ (r : Nat) (now c : Int) (xs : List Int) (l : List Tk) (vl : Value) (chs : Nat → Nat → List Nat) (nx : Nat), i = .int .i64 (r : Int) ∧ r ≤ n ∧ nv = .int .i64 (nx : Int) ∧ nx ≤ 20 ∧ 0 ≤ now ∧ now ≤ 2147483648 ∧ c ≤ 1000 * (r : Int) ∧ Hid (l.length ≤ nx) ∧ Hid (∀ x ∈ l, x.1 < (nx : Int)) ∧ Hid (PlS a b bl bs L S B (1 + L * (1 + S) + 20) G H lo w wr c xs chs now vl l [])) (fun _ i _ => (n - intOf i).toNat)
    case atStart => exact ⟨0, nw, 0, _, [], _, _, 0, rfl, by omega, rfl, by omega, by omega, by omega, by omega, Lib.hid (Nat.le_refl _), Lib.hid (fun x hx => by simp at hx), HW4⟩
    case round =>
      clear HW4
      obtain ⟨r, now, c, xs, l, vl, chs, nx, rfl, hr, rfl, hnx, hnow0, hnow1, hc, HLL, HLT, HW⟩ := hrel
      by_cases hlt : r < n
      · have i2 : (r : Int) < (n : Int) := by omega
        have hrz : r < zs.length := by have := HL.out; omega
        obtain ⟨⟨p, z⟩, hpz⟩ : ∃ x, zs[r]? = some x := ⟨_, List.getElem?_eq_getElem hrz⟩
        obtain ⟨d, rfl, hdc1, hdc2⟩ := HC.out wr HW.out.rest.bel r p z hpz
        obtain ⟨hz0, hz1⟩ : 0 ≤ z ∧ z < 4294967296 := HZ.out _ (List.mem_of_getElem? hpz)
        have i0 : 0 ≤ (r : Int) := by omega
        have e0 : wr.cell? (d.add (r * 2)) = some (.bool p) := hdc1
        have e1 : wr.cell? ⟨(d.add (r * 2)).block, (d.add (r * 2)).off + 1, none⟩ = some (.int .u32 z) := hdc2
        clear hpz hrz hdc1 hdc2
        go_upto_region 12 with fail
        have hmx : Made wr (wr.alloc (.cells #[.bool p, .int .u32 z] 79)) := (Made.refl _).alloc (Nat.le_refl _) _
        have hbx : (wr.alloc (.cells #[.bool p, .int .u32 z] 79)).heap[wr.heap.size]? = some (.cells #[.bool p, .int .u32 z] 79 (0, 0)) := heap_alloc_new _ _
        generalize wr.alloc (.cells #[.bool p, .int .u32 z] 79) = wx at hmx hbx ⊢
        generalize wr.heap.size = gx at hbx ⊢
        have HWx := Lib.hid (HW.out.made hmx)
        have y0 : wx.cell? ⟨gx, 0, none⟩ = some (.bool p) := by rw [cell_of_row _ _ _ _ _ _ hbx]; rfl
        have y1 : wx.cell? ⟨gx, 1, none⟩ = some (.int .u32 z) := by rw [cell_of_row _ _ _ _ _ _ hbx]; rfl
        obtain ⟨m0, m1, m2, m3⟩ := HWx.out.cells
        clear e0 e1 hmx hbx HW
        cases p with
        | true =>
          by_cases h20 : nx < 20
          · have i3 : (nx : Int) < 20 := by omega
            obtain ⟨dd, hdd, hd0, hd1⟩ : ∃ dd, now + 1 + z / 16 = dd ∧ now < dd ∧ dd ≤ now + 268435456 := ⟨_, rfl, by omega, by omega⟩
            have HDD := Lib.hid hdd
            have htm : tm now < tm dd := by
              have e1 := tm_of (t := now) (by omega) (by omega)
              have e2 := tm_of (t := dd) (by omega) (by omega)
              omega
            have hfr : ∀ x ∈ l, x.1 ≠ (nx : Int) := fun x hx => by have := HLT.out x hx; omega
            obtain ⟨lv, sl, hp, hvv, hI⟩ := HWx.out.rest.insert (t := nx) (now := now) (due := dd) h20 (by omega) (HWx.out.ply.fresh hfr) htm (by omega)
            have HI := Lib.hid hI
            have HPN := Lib.hid (HWx.out.ply.put (g := []) h20 (by omega) (by omega) (by rw [List.append_nil]; exact hfr) hp hvv)
            have HLN : Hid ((newTk L B now (nx : Int) dd :: l).length ≤ nx + 1) := by have := HLL.out; rw [List.length_cons]; show _ ≤ _; omega
            have HLTN : Hid (∀ x ∈ newTk L B now (nx : Int) dd :: l, x.1 < ((nx + 1 : Nat) : Int)) := by
              intro x hx
              rcases List.mem_cons.1 hx with rfl | hx
              · show (nx : Int) < _; omega
              · have := HLT.out x hx; omega
            clear hI hp hvv htm hfr hdd
            obtain ⟨c0, c1, c2, c3, c4, c5, c6⟩ := HWx.out.rest.cells
            go_wp2_with fail
            rw [HDD.out]
            refine HI.out.mono ?_
            rintro e w4 ⟨rfl, c4', xs4, hR4, hc4, hP4⟩
            have hlt9 := HF.out.lt
            have hne9 := HF.out.ne
            have HR4 := Lib.hid hR4
            have HB4 : Hid (w4.heap[H]? = some (OR L B now vl)) := (hP4.block _ (Array.getElem?_eq_some_iff.1 HWx.out.box).1 hne9.1 hne9.2.1).trans HWx.out.box
            have HT4 := Lib.hid (HWx.out.tks.past hP4 hlt9.1 hlt9.2.1)
            have HL4 : Hid (lo ≤ w4.heap.size) := Nat.le_trans HWx.out.lo_ hP4.size
            have HRI := Lib.hid (RInsert_c (L := L) (B := B) (now := now) (t := (nx : Int)) (due := dd) HT4.out (by have := HLL.out; omega))
            unfold RW at HRI
            clear c0 c1 c2 c3 c4 c5 c6 m0 m1 m2 m3 y0 y1 hR4 hP4 HI hlt9 hne9 HWx
            have m0 : w4.cell? ⟨H, 0, none⟩ = some (.int .i64 (L : Int)) := by rw [cell_of_row _ _ _ _ _ _ HB4.out]; rfl
            have m1 : w4.cell? ⟨H, 1, none⟩ = some (.int .i64 (B : Int)) := by rw [cell_of_row _ _ _ _ _ _ HB4.out]; rfl
            have m2 : w4.cell? ⟨H, 2, none⟩ = some (.int .i64 now) := by rw [cell_of_row _ _ _ _ _ _ HB4.out]; rfl
            have m3 : w4.cell? ⟨H, 3, none⟩ = some vl := by rw [cell_of_row _ _ _ _ _ _ HB4.out]; rfl
            go_wp2_with fail
            refine HRI.out.mono ?_
            rintro e w5 ⟨v5, rfl, hT5, hM5⟩
            have HV5 := Lib.hid hT5.one
            have HB5 : Hid (w5.heap[H]? = some (OR L B now vl)) := (hM5.block _ (Array.getElem?_eq_some_iff.1 HB4.out).1).trans HB4.out
            have HW9 : Hid (PlS a b bl bs L S B (1 + L * (1 + S) + 20) G H lo w (w5.setRow H #[.int .i64 (L : Int), .int .i64 (B : Int), .int .i64 now, v5]) c4' xs4 (insCh nx lv sl chs) now v5 (newTk L B now (nx : Int) dd :: l) []) := PlS.turn (HR4.out.made hM5) HB5.out HF.out (hT5.mono HL4.out) HPN.out (Nat.le_trans HL4.out hM5.size)
            have HW9len : Hid ((newTk L B now (nx : Int) dd :: l).length ≤ 20) := by have := HLN.out; show _ ≤ 20; omega
            clear m0 m1 m2 m3 hT5 hM5 HRI HR4 HB4 HT4 HL4 HPN
            go_upto_region 18 with (refine wpList_store_row rfl 77 (.tmp 13) (.tmp 85) rfl H #[.int .i64 (L : Int), .int .i64 (B : Int), .int .i64 now, v5] (by simp [Act.eval, Act.put]) (by simp [Act.eval, Act.put]) 77 _ HB5.out wheel_size rfl (one4 rfl rfl rfl HV5.out) ?_)
            generalize w5.setRow H #[.int .i64 (L : Int), .int .i64 (B : Int), .int .i64 now, v5] = w9 at HW9 ⊢
            clear HB5
            have hW9 := HW9.out
            obtain ⟨tt, htt⟩ : ∃ tt, (peekR now L B xs4 L 0).1 = tt := ⟨_, rfl⟩
            have HPE := Lib.hid (hW9.rest.peek (now := now) (by omega) hLB)
            have hpk := hW9.ply.peek hW9.rest.whe.wst L 0 (by omega)
            rw [htt] at HPE hpk
            have hsl9 : ∀ x ∈ (newTk L B now (nx : Int) dd :: l), 0 ≤ x.2.2.2 ∧ x.2.2.2 < 64 := fun x hx => by
              obtain ⟨_, sl, hv, _, _, e2⟩ := (hW9.ply.ok x hx).pl
              have := hv.2.1
              omega
            have HRP : Hid (∀ w', Tks lo w' v5 ((newTk L B now (nx : Int) dd :: l)) → Calls Try.prog 36 #[RW L B now v5] w' fun e w'' => e = .returned (.int .i64 tt) ∧ Made w' w'') := fun w' ht => by
              rw [hpk]
              exact RPeek_c L B lo now v5 _ w' (by omega) hB1 (by omega) hLB2 (by have := HW9len.out; omega) hsl9 ht
            unfold RW at HRP
            obtain ⟨c0, c1, c2, c3, c4, c5, c6⟩ := hW9.rest.cells
            obtain ⟨m0, m1, m2, m3⟩ := hW9.cells
            clear htt hpk hsl9 hW9
            go_wp2_with fail
            refine HPE.out.mono ?_
            rintro e w10 ⟨rfl, c10, hR10, hc10, hP10⟩
            have hlt9 := HF.out.lt
            have hne9 := HF.out.ne
            have HW10 : Hid (PlS a b bl bs L S B (1 + L * (1 + S) + 20) G H lo w w10 c10 xs4 (insCh nx lv sl chs) now v5 ((newTk L B now (nx : Int) dd :: l)) []) := ⟨hR10, (hP10.block _ (Array.getElem?_eq_some_iff.1 HW9.out.box).1 hne9.1 hne9.2.1).trans HW9.out.box, HW9.out.tks.past hP10 hlt9.1 hlt9.2.1, HW9.out.ply, Nat.le_trans HW9.out.lo_ hP10.size⟩
            clear c0 c1 c2 c3 c4 c5 c6 m0 m1 m2 m3 hR10 hP10 HPE hlt9 hne9
            obtain ⟨c0, c1, c2, c3, c4, c5, c6⟩ := HW10.out.rest.cells
            obtain ⟨m0, m1, m2, m3⟩ := HW10.out.cells
            go_wp2_with fail
            refine (HRP.out _ HW10.out.tks).mono ?_
            rintro e w11 ⟨rfl, hM11⟩
            have HW11 := Lib.hid (HW10.out.made hM11)
            clear c0 c1 c2 c3 c4 c5 c6 m0 m1 m2 m3 hM11 HRP HW10
            have hll := HW11.out.ply.listlen HW11.out.rest.whe.wst
            have HTI := Lib.hid (tickets_c (vl := v5) (now := now) HW11.out.rest HW11.out.tks (by omega) hB1 (by omega) (by have := HW9len.out; omega) (by have := HW9len.out; omega) (by have := HW9len.out; omega) (by rw [← HS.out]; exact HW11.out.ply.list HW11.out.rest.whe.wst.s1))
            unfold RW at HTI
            clear hll
            obtain ⟨c0, c1, c2, c3, c4, c5, c6⟩ := HW11.out.rest.cells
            obtain ⟨m0, m1, m2, m3⟩ := HW11.out.cells
            go_wp2_with fail
            refine HTI.out.mono ?_
            rintro e w12 ⟨rfl, hM12⟩
            have HW12 := Lib.hid (HW11.out.made hM12)
            clear c0 c1 c2 c3 c4 c5 c6 m0 m1 m2 m3 hM12 HTI HW11
            go_wp2_with fail
            go_roundw
            case rel => exact ⟨r + 1, now, c10, xs4, (newTk L B now (nx : Int) dd :: l), v5, (insCh nx lv sl chs), nx + 1, by go_num, by omega, by go_num, by omega, by omega, by omega, by omega, HLN, HLTN, HW12⟩
            case measure => simp [intOf]; omega
          · have i3 : ¬ (nx : Int) < 20 := by omega
            have HW9 := HWx
            have HW9len : Hid (l.length ≤ 20) := by have := HLL.out; show _ ≤ 20; omega
            clear m0 m1 m2 m3 y1 HWx
            go_upto_region 37 with fail
            clear y0
            have hW9 := HW9.out
            obtain ⟨tt, htt⟩ : ∃ tt, (peekR now L B xs L 0).1 = tt := ⟨_, rfl⟩
            have HPE := Lib.hid (hW9.rest.peek (now := now) (by omega) hLB)
            have hpk := hW9.ply.peek hW9.rest.whe.wst L 0 (by omega)
            rw [htt] at HPE hpk
            have hsl9 : ∀ x ∈ l, 0 ≤ x.2.2.2 ∧ x.2.2.2 < 64 := fun x hx => by
              obtain ⟨_, sl, hv, _, _, e2⟩ := (hW9.ply.ok x hx).pl
              have := hv.2.1
              omega
            have HRP : Hid (∀ w', Tks lo w' vl (l) → Calls Try.prog 36 #[RW L B now vl] w' fun e w'' => e = .returned (.int .i64 tt) ∧ Made w' w'') := fun w' ht => by
              rw [hpk]
              exact RPeek_c L B lo now vl _ w' (by omega) hB1 (by omega) hLB2 (by have := HW9len.out; omega) hsl9 ht
            unfold RW at HRP
            obtain ⟨c0, c1, c2, c3, c4, c5, c6⟩ := hW9.rest.cells
            obtain ⟨m0, m1, m2, m3⟩ := hW9.cells
            clear htt hpk hsl9 hW9
            go_wp2_with fail
            refine HPE.out.mono ?_
            rintro e w10 ⟨rfl, c10, hR10, hc10, hP10⟩
            have hlt9 := HF.out.lt
            have hne9 := HF.out.ne
            have HW10 : Hid (PlS a b bl bs L S B (1 + L * (1 + S) + 20) G H lo w w10 c10 xs chs now vl (l) []) := ⟨hR10, (hP10.block _ (Array.getElem?_eq_some_iff.1 HW9.out.box).1 hne9.1 hne9.2.1).trans HW9.out.box, HW9.out.tks.past hP10 hlt9.1 hlt9.2.1, HW9.out.ply, Nat.le_trans HW9.out.lo_ hP10.size⟩
            clear c0 c1 c2 c3 c4 c5 c6 m0 m1 m2 m3 hR10 hP10 HPE hlt9 hne9
            obtain ⟨c0, c1, c2, c3, c4, c5, c6⟩ := HW10.out.rest.cells
            obtain ⟨m0, m1, m2, m3⟩ := HW10.out.cells
            go_wp2_with fail
            refine (HRP.out _ HW10.out.tks).mono ?_
            rintro e w11 ⟨rfl, hM11⟩
            have HW11 := Lib.hid (HW10.out.made hM11)
            clear c0 c1 c2 c3 c4 c5 c6 m0 m1 m2 m3 hM11 HRP HW10
            have hll := HW11.out.ply.listlen HW11.out.rest.whe.wst
            have HTI := Lib.hid (tickets_c (vl := vl) (now := now) HW11.out.rest HW11.out.tks (by omega) hB1 (by omega) (by have := HW9len.out; omega) (by have := HW9len.out; omega) (by have := HW9len.out; omega) (by rw [← HS.out]; exact HW11.out.ply.list HW11.out.rest.whe.wst.s1))
            unfold RW at HTI
            clear hll
            obtain ⟨c0, c1, c2, c3, c4, c5, c6⟩ := HW11.out.rest.cells
            obtain ⟨m0, m1, m2, m3⟩ := HW11.out.cells
            go_wp2_with fail
            refine HTI.out.mono ?_
            rintro e w12 ⟨rfl, hM12⟩
            have HW12 := Lib.hid (HW11.out.made hM12)
            clear c0 c1 c2 c3 c4 c5 c6 m0 m1 m2 m3 hM12 HTI HW11
            go_wp2_with fail
            go_roundw
            case rel => exact ⟨r + 1, now, c10, xs, l, vl, chs, nx, by go_num, by omega, rfl, by omega, by omega, by omega, by omega, HLL, HLT, HW12⟩
            case measure => simp [intOf]; omega
        | false =>
          by_cases hto : 2147483648 < now + z / 64
          · go_wp2_with fail
            go_ret
            exact ⟨rfl, HWx.out.rest.bel⟩
          · obtain ⟨to', hto', ht0, ht1⟩ : ∃ to', now + z / 64 = to' ∧ now ≤ to' ∧ to' ≤ 2147483648 := ⟨_, rfl, by omega, by omega⟩
            have HTO := Lib.hid hto'
            have hwst := HWx.out.rest.whe.wst
            have hgone := HWx.out.ply.gone (to' := to') hwst.s1
            have hgl0 := HWx.out.ply.gonelen (to' := to') hwst
            have hft := filter_two (fun x => psR L B now to' x) l
            obtain ⟨g, hg⟩ : ∃ g, lsL S (l.filter fun x => psR L B now to' x) (L + 1) = g := ⟨_, rfl⟩
            obtain ⟨l2, hl2⟩ : ∃ l2, (l.filter fun x => !psR L B now to' x) = l2 := ⟨_, rfl⟩
            have hPN := HWx.out.ply.pass (to' := to') hwst (by omega) hnow0 ht0 (by omega)
            rw [hg] at hgone hgl0 hPN
            rw [hl2] at hft hPN
            have HPN := Lib.hid hPN
            have hlen2 : l2.length + g.length ≤ nx := by have := HLL.out; omega
            have HLT2 : Hid (∀ x ∈ l2, x.1 < (nx : Int)) := by
              intro x hx
              rw [← hl2, List.mem_filter] at hx
              exact HLT.out x hx.1
            have HLG2 : Hid (∀ x ∈ g, x.1 < (nx : Int)) := by
              intro x hx
              rw [← hg] at hx
              exact HLT.out x (List.mem_filter.1 (mem_lsL hx)).1
            have hgm : (g.map fun x => x.1.toNat).length = g.length := List.length_map ..
            have HPA := Lib.hid (HWx.out.rest.pass (fr := now) (to' := to') (by omega) (by rw [hgone, hgm]; omega))
            rw [hgone, hgm] at HPA
            have HRP := Lib.hid (fun w' ht => RPass_c L B lo now to' vl l w' (by omega) hB1 (by omega) (by have := HLL.out; omega) ht0 ht)
            rw [← HS.out, hg, hl2] at HRP
            unfold RW at HRP
            obtain ⟨c0, c1, c2, c3, c4, c5, c6⟩ := HWx.out.rest.cells
            clear hwst hgone hgl0 hft hg hl2 hPN hgm hto'
            go_wp2_with fail
            rw [HTO.out]
            refine HPA.out.mono ?_
            rintro e w5 ⟨A5, cap5, rfl, hl5, hm5, c5', xs5, hR5, hc5, hP5, ht5⟩
            have hlt9 := HF.out.lt
            have hne9 := HF.out.ne
            have HR5 := Lib.hid hR5
            have HB5 : Hid (w5.heap[H]? = some (OR L B now vl)) := (hP5.block _ (Array.getElem?_eq_some_iff.1 HWx.out.box).1 hne9.1 hne9.2.1).trans HWx.out.box
            have HTK5 := Lib.hid (HWx.out.tks.past hP5 hlt9.1 hlt9.2.1)
            have HL5 : Hid (lo ≤ w5.heap.size) := Nat.le_trans HWx.out.lo_ hP5.size
            have HG5 := Lib.hid ht5
            have HLX : Hid (lo ≤ wx.heap.size) := HWx.out.lo_
            have HLP : Hid (wx.heap.size ≤ w5.heap.size) := hP5.size
            clear c0 c1 c2 c3 c4 c5 c6 m0 m1 m2 m3 y0 y1 hR5 hP5 ht5 HPA hlt9 hne9 HWx
            generalize wx.heap.size = s5 at HG5 HLX HLP
            have m0 : w5.cell? ⟨H, 0, none⟩ = some (.int .i64 (L : Int)) := by rw [cell_of_row _ _ _ _ _ _ HB5.out]; rfl
            have m1 : w5.cell? ⟨H, 1, none⟩ = some (.int .i64 (B : Int)) := by rw [cell_of_row _ _ _ _ _ _ HB5.out]; rfl
            have m2 : w5.cell? ⟨H, 2, none⟩ = some (.int .i64 now) := by rw [cell_of_row _ _ _ _ _ _ HB5.out]; rfl
            have m3 : w5.cell? ⟨H, 3, none⟩ = some vl := by rw [cell_of_row _ _ _ _ _ _ HB5.out]; rfl
            go_wp2_with fail
            refine (HRP.out _ HTK5.out).mono ?_
            rintro e w6 ⟨v6, vg, rfl, hT6, hG6, hM6⟩
            obtain ⟨A6, n6, cap6, rfl⟩ := hT6.shape
            have HV6 := Lib.hid hT6.one
            have HB6 : Hid (w6.heap[H]? = some (OR L B now vl)) := (hM6.block _ (Array.getElem?_eq_some_iff.1 HB5.out).1).trans HB5.out
            have HR6 := Lib.hid (HR5.out.made hM6)
            have HT6 : Hid (Tks lo w6 (.slice A6 n6 cap6) l2) := hT6.mono HL5.out
            have HVG : Hid (Tks s5 w6 vg g) := hG6.mono HLP.out
            have HG6 := Lib.hid (HG5.out.made hM6)
            have HL6 : Hid (lo ≤ w6.heap.size) := Nat.le_trans HL5.out hM6.size
            clear m0 m1 m2 m3 hT6 hG6 hM6 HRP HR5 HB5 HTK5 HL5 HG5 HLP
            obtain ⟨Ag, capg, rfl, hg1, hg2, hg3⟩ := HVG.out
            have HGT := Lib.hid hg3
            clear hg3 HVG
            go_upto_region 24 with fail
            have hm7 : Made w6 (w6.alloc (.cells #[.int .i64 (L : Int), .int .i64 (B : Int), .int .i64 to', (.slice A6 n6 cap6)] 77)) := (Made.refl _).alloc (Nat.le_refl _) _
            have hb7 : (w6.alloc (.cells #[.int .i64 (L : Int), .int .i64 (B : Int), .int .i64 to', (.slice A6 n6 cap6)] 77)).heap[w6.heap.size]? = some (OR L B to' (.slice A6 n6 cap6)) := heap_alloc_new _ _
            generalize w6.alloc _ = w7 at hm7 hb7 ⊢
            generalize w6.heap.size = g7 at hb7 ⊢
            have HB7 : Hid (w7.heap[H]? = some (OR L B now vl)) := (hm7.block _ (Array.getElem?_eq_some_iff.1 HB6.out).1).trans HB6.out
            have HR7 := Lib.hid (HR6.out.made hm7)
            have HT7 := Lib.hid (HT6.out.made hm7)
            have HG7 := Lib.hid (HG6.out.made hm7)
            have HGT7 := Lib.hid (HGT.out.made hm7)
            have HL7 : Hid (lo ≤ w7.heap.size) := Nat.le_trans HL6.out hm7.size
            have k0 : w7.cell? ⟨g7, 0, none⟩ = some (.int .i64 (L : Int)) := by rw [cell_of_row _ _ _ _ _ _ hb7]; rfl
            have k1 : w7.cell? ⟨g7, 1, none⟩ = some (.int .i64 (B : Int)) := by rw [cell_of_row _ _ _ _ _ _ hb7]; rfl
            have k2 : w7.cell? ⟨g7, 2, none⟩ = some (.int .i64 to') := by rw [cell_of_row _ _ _ _ _ _ hb7]; rfl
            have k3 : w7.cell? ⟨g7, 3, none⟩ = some (.slice A6 n6 cap6) := by rw [cell_of_row _ _ _ _ _ _ hb7]; rfl
            have HW8 : Hid (PlS a b bl bs L S B (1 + L * (1 + S) + 20) G H lo w (w7.setRow H #[.int .i64 (L : Int), .int .i64 (B : Int), .int .i64 to', (.slice A6 n6 cap6)]) c5' xs5 (passCh (crOf now to' B) L 0 chs) to' (.slice A6 n6 cap6) l2 (g.drop 0)) := PlS.turn HR7.out HB7.out HF.out HT7.out HPN.out HL7.out
            have hHs : H < s5 := by have := HF.out.lt; have := HLX.out; omega
            have HG8 := Lib.hid (HG7.out.turn hHs #[.int .i64 (L : Int), .int .i64 (B : Int), .int .i64 to', (.slice A6 n6 cap6)])
            have HGT8 := Lib.hid (HGT7.out.turn hHs #[.int .i64 (L : Int), .int .i64 (B : Int), .int .i64 to', (.slice A6 n6 cap6)])
            clear hm7 hb7 HB6 HR6 HT6 HG6 HGT HL6 HR7 HT7 HG7 HGT7 HL7 HPN
            go_upto_region 27 with (refine wpList_store_row rfl 77 (.tmp 13) (.tmp 120) rfl H #[.int .i64 (L : Int), .int .i64 (B : Int), .int .i64 to', .slice A6 n6 cap6] (by simp [Act.eval, Act.put]) (by simp [Act.eval, Act.put]) 77 _ HB7.out wheel_size rfl (one4 rfl rfl rfl HV6.out) ?_)
            generalize w7.setRow H #[.int .i64 (L : Int), .int .i64 (B : Int), .int .i64 to', (.slice A6 n6 cap6)] = w8 at HW8 HG8 HGT8 ⊢
            clear k0 k1 k2 k3 HB7
            go_wp2_with fail
            go_loopw [123] (fun i wz => ∃ (m : Nat) (c7 : Int) (xs7 : List Int) (l7 : List Tk) (vl7 : Value) (chs7 : Nat → Nat → List Nat), i = .int .i64 (m : Int) ∧ m ≤ g.length ∧ c7 ≤ 1000 * (r : Int) + 600 + 5 * (m : Int) ∧ Hid (l7.length + (g.length - m) ≤ nx) ∧ Hid (∀ x ∈ l7, x.1 < (nx : Int)) ∧ Hid (PlS a b bl bs L S B (1 + L * (1 + S) + 20) G H lo w wz c7 xs7 chs7 to' vl7 l7 (g.drop m)) ∧ Hid (Told s5 wz A5 (vals (g.map fun x => x.1.toNat))) ∧ Hid (Told s5 wz Ag (tk g))) (fun i _ => (g.length - intOf i).toNat)
            case atStart => exact ⟨0, c5', xs5, l2, (.slice A6 n6 cap6), _, rfl, by omega, by omega, hlen2, HLT2, HW8, HG8, HGT8⟩
            case round =>
              clear HW8 HG8 HGT8
              obtain ⟨m, c7, xs7, l7, vl7, chs7, rfl, hm, hc7, HL7, HLT7, HW7, HG7, HGT7⟩ := hrel
              by_cases hlm : m < g.length
              · have i3 : (m : Int) < (g.length : Int) := by omega
                obtain ⟨⟨xt, xd, xl, xsl⟩, hx⟩ : ∃ x, g[m]? = some x := ⟨_, List.getElem?_eq_getElem hlm⟩
                have hdrop : g.drop m = (xt, xd, xl, xsl) :: g.drop (m + 1) := by
                  rw [List.drop_eq_getElem_cons hlm]
                  rw [List.getElem?_eq_getElem hlm] at hx
                  rw [Option.some.inj hx]
                have hPl := HW7.out.ply
                rw [hdrop] at hPl
                obtain ⟨t0, t1, d0, d1⟩ := hPl.go _ List.mem_cons_self
                simp only at t0 t1 d0 d1
                obtain ⟨t, rfl⟩ : ∃ t : Nat, xt = (t : Int) := ⟨xt.toNat, by omega⟩
                have HTN : Hid ((t : Int) < (nx : Int)) := HLG2.out _ (List.mem_of_getElem? hx)
                obtain ⟨gg, rfl, hgg, q0, q1, q2, q3⟩ := told_cell HGT7.out hx
                simp only at q0 q1 q2 q3
                have hg0 : vals (g.map fun x => x.1.toNat) ≠ [] := fun c => by
                  have : (vals (g.map fun x => x.1.toNat)).length = 0 := by rw [c]; rfl
                  unfold vals at this; rw [List.length_map, List.length_map] at this; omega
                obtain ⟨g8, cur8, ty8, rfl, hlo8, hb8, hc8⟩ := HG7.out hg0
                have x0 : wr.cell? ⟨g8, m, none⟩ = some (.int .i64 (t : Int)) := by
                  rw [cell_of_row _ _ _ _ _ _ hb8, hc8 _ (by unfold vals; rw [List.length_map, List.length_map]; exact hlm)]
                  unfold vals; rw [List.getElem?_map, List.getElem?_map, hx]
                  simp
                have hm0 : (0 : Int) ≤ (m : Int) := by omega
                have HPL := Lib.hid hPl
                have HHG : Hid (g8 ≠ H) := by have := HF.out.lt; have := HLX.out; show _ ≠ _; omega
                clear hx hdrop hg0 hlo8 hb8 hc8 hgg hPl
                go_upto_region 30 with fail
                have hmy : Made wr (wr.alloc (.cells #[.int .i64 (t : Int), .int .i64 xd, .int .i64 xl, .int .i64 xsl] 87)) := (Made.refl _).alloc (Nat.le_refl _) _
                have hby : (wr.alloc (.cells #[.int .i64 (t : Int), .int .i64 xd, .int .i64 xl, .int .i64 xsl] 87)).heap[wr.heap.size]? = some (.cells #[.int .i64 (t : Int), .int .i64 xd, .int .i64 xl, .int .i64 xsl] 87 (0, 0)) := heap_alloc_new _ _
                generalize wr.alloc _ = wy at hmy hby ⊢
                have x1 : wy.cell? ⟨g8, m, none⟩ = some (.int .i64 (t : Int)) := (World.cell?_of_block (hmy.block _ (Go.block_lt_of_cell x0))).trans x0
                have HGY : Hid (wr.heap.size ≠ a ∧ wr.heap.size ≠ b ∧ wr.heap.size ≠ H) := by have := HF.out.lt; have := HW7.out.lo_; exact ⟨by omega, by omega, by omega⟩
                generalize wr.heap.size = gy at hby HGY ⊢
                have z0 : wy.cell? ⟨gy, 0, none⟩ = some (.int .i64 (t : Int)) := by rw [cell_of_row _ _ _ _ _ _ hby]; rfl
                have z1 : wy.cell? ⟨gy, 1, none⟩ = some (.int .i64 xd) := by rw [cell_of_row _ _ _ _ _ _ hby]; rfl
                have HWY := Lib.hid (HW7.out.made hmy)
                have HGY7 := Lib.hid (HG7.out.made hmy)
                have HGTY := Lib.hid (HGT7.out.made hmy)
                have HZY := Lib.hid (And.intro z0 z1)
                clear hmy hby x0 q0 q1 q2 q3 HW7 HG7 HGT7
                go_quiet (fail)
                have hdn : ∀ k, Made wy (wy.drewN k) := fun k => Made.drewN wy k
                have zz : ∀ k, (wy.drewN k).cell? ⟨gy, 0, none⟩ = some (.int .i64 (t : Int)) ∧ (wy.drewN k).cell? ⟨gy, 1, none⟩ = some (.int .i64 xd) := fun k => HZY.out
                clear z0 z1 x1
                generalize hwz : wy.drewN _ = wz
                have hmz : Made wy wz := by rw [← hwz]; exact hdn _
                obtain ⟨z0, z1⟩ : wz.cell? ⟨gy, 0, none⟩ = some (.int .i64 (t : Int)) ∧ wz.cell? ⟨gy, 1, none⟩ = some (.int .i64 xd) := by rw [← hwz]; exact zz _
                have HWZ := Lib.hid (HWY.out.made hmz)
                have HGZ := Lib.hid (HGY7.out.made hmz)
                have HGTZ := Lib.hid (HGTY.out.made hmz)
                have HZZ := Lib.hid (And.intro z0 z1)
                clear hdn zz hwz hmz HZY HWY HGY7 HGTY
                obtain ⟨m0, m1, m2, m3⟩ := HWZ.out.cells
                obtain ⟨c0, c1, c2, c3, c4, c5, c6⟩ := HWZ.out.rest.cells
                by_cases hlate : to' < xd
                · have htm : tm to' < tm xd := by
                    have e1 := tm_of (t := to') (by omega) (by omega)
                    have e2 := tm_of (t := xd) (by omega) (by omega)
                    omega
                  have hfr : ∀ x ∈ l7, x.1 ≠ (t : Int) := fun x hx e => by
                    have hnd := HPL.out.nd
                    rw [List.map_append, List.nodup_append] at hnd
                    exact hnd.2.2 x.1 (List.mem_map.2 ⟨x, hx, rfl⟩) (t : Int) (by rw [List.map_cons]; exact List.mem_cons_self) e
                  obtain ⟨lv, sl, hp, hvv, hI⟩ := HWZ.out.rest.insert (t := t) (now := to') (due := xd) (by omega) (by omega) (HWZ.out.ply.fresh hfr) htm (by omega)
                  have HI := Lib.hid hI
                  have HPA2 : Hid (Ply L S B to' (newTk L B to' (t : Int) xd :: l7) (g.drop (m + 1)) (insCh t lv sl chs7)) := by
                    have := HPL.out.again hp hvv
                    simp only [Int.toNat_natCast] at this
                    exact this
                  clear hI hp hvv htm hfr
                  go_wp2_with fail
                  refine HI.out.mono ?_
                  rintro e w4 ⟨rfl, c4', xs4, hR4, hc4, hP4⟩
                  have hlt9 := HF.out.lt
                  have hne9 := HF.out.ne
                  have HR4 := Lib.hid hR4
                  have HB4 : Hid (w4.heap[H]? = some (OR L B to' vl7)) := (hP4.block _ (Array.getElem?_eq_some_iff.1 HWZ.out.box).1 hne9.1 hne9.2.1).trans HWZ.out.box
                  have HT4 := Lib.hid (HWZ.out.tks.past hP4 hlt9.1 hlt9.2.1)
                  have HL4 : Hid (lo ≤ w4.heap.size) := Nat.le_trans HWZ.out.lo_ hP4.size
                  have HG4 := Lib.hid (HGZ.out.past hP4 (by have := HLX.out; omega) (by have := HLX.out; omega))
                  have HGT4 := Lib.hid (HGTZ.out.past hP4 (by have := HLX.out; omega) (by have := HLX.out; omega))
                  have y0 := cell_past9 hP4 HZZ.out.1 ⟨HGY.out.1, HGY.out.2.1⟩
                  have y1 := cell_past9 hP4 HZZ.out.2 ⟨HGY.out.1, HGY.out.2.1⟩
                  have HRI := Lib.hid (RInsert_c (L := L) (B := B) (now := to') (t := (t : Int)) (due := xd) HT4.out (by have := HL7.out; omega))
                  unfold RW at HRI
                  clear c0 c1 c2 c3 c4 c5 c6 m0 m1 m2 m3 z0 z1 hR4 hP4 HI hlt9 hne9 HWZ HGZ HGTZ HZZ HPL
                  have m0 : w4.cell? ⟨H, 0, none⟩ = some (.int .i64 (L : Int)) := by rw [cell_of_row _ _ _ _ _ _ HB4.out]; rfl
                  have m1 : w4.cell? ⟨H, 1, none⟩ = some (.int .i64 (B : Int)) := by rw [cell_of_row _ _ _ _ _ _ HB4.out]; rfl
                  have m2 : w4.cell? ⟨H, 2, none⟩ = some (.int .i64 to') := by rw [cell_of_row _ _ _ _ _ _ HB4.out]; rfl
                  have m3 : w4.cell? ⟨H, 3, none⟩ = some vl7 := by rw [cell_of_row _ _ _ _ _ _ HB4.out]; rfl
                  go_wp2_with fail
                  refine HRI.out.mono ?_
                  rintro e w5 ⟨v5, rfl, hT5, hM5⟩
                  have HV5 := Lib.hid hT5.one
                  have HB5 : Hid (w5.heap[H]? = some (OR L B to' vl7)) := (hM5.block _ (Array.getElem?_eq_some_iff.1 HB4.out).1).trans HB4.out
                  have HW9 : Hid (PlS a b bl bs L S B (1 + L * (1 + S) + 20) G H lo w (w5.setRow H #[.int .i64 (L : Int), .int .i64 (B : Int), .int .i64 to', v5]) c4' xs4 (insCh t lv sl chs7) to' v5 (newTk L B to' (t : Int) xd :: l7) (g.drop (m + 1))) := PlS.turn (HR4.out.made hM5) HB5.out HF.out (hT5.mono HL4.out) HPA2.out (Nat.le_trans HL4.out hM5.size)
                  have HG9 := Lib.hid ((HG4.out.made hM5).turn hHs #[.int .i64 (L : Int), .int .i64 (B : Int), .int .i64 to', v5])
                  have HGT9 := Lib.hid ((HGT4.out.made hM5).turn hHs #[.int .i64 (L : Int), .int .i64 (B : Int), .int .i64 to', v5])
                  have HL9 : Hid ((newTk L B to' (t : Int) xd :: l7).length + (g.length - (m + 1)) ≤ nx) := by have := HL7.out; rw [List.length_cons]; show _ ≤ _; omega
                  have HLT9 : Hid (∀ x ∈ newTk L B to' (t : Int) xd :: l7, x.1 < (nx : Int)) := by
                    intro x hx
                    rcases List.mem_cons.1 hx with rfl | hx
                    · exact HTN.out
                    · exact HLT7.out x hx
                  clear m0 m1 m2 m3 y0 y1 hT5 hM5 HRI HR4 HB4 HT4 HL4 HPA2 HG4 HGT4
                  go_upto_region 36 with (refine wpList_store_row rfl 77 (.tmp 13) (.tmp 152) rfl H #[.int .i64 (L : Int), .int .i64 (B : Int), .int .i64 to', v5] (by simp [Act.eval, Act.put]) (by simp [Act.eval, Act.put]) 77 _ HB5.out wheel_size rfl (one4 rfl rfl rfl HV5.out) ?_)
                  generalize w5.setRow H #[.int .i64 (L : Int), .int .i64 (B : Int), .int .i64 to', v5] = w9 at HW9 HG9 HGT9 ⊢
                  clear HB5
                  go_wp2_with fail
                  go_roundw
                  case rel => exact ⟨m + 1, c4', xs4, _, v5, _, by go_num, by omega, by omega, HL9, HLT9, HW9, HG9, HGT9⟩
                  case measure => simp [intOf]; omega
                · have HW9 : Hid (PlS a b bl bs L S B (1 + L * (1 + S) + 20) G H lo w wz c7 xs7 chs7 to' vl7 l7 (g.drop (m + 1))) := ⟨HWZ.out.rest, HWZ.out.box, HWZ.out.tks, HPL.out.over, HWZ.out.lo_⟩
                  have HL9 : Hid (l7.length + (g.length - (m + 1)) ≤ nx) := by have := HL7.out; show _ ≤ _; omega
                  clear m0 m1 m2 m3 c0 c1 c2 c3 c4 c5 c6 HPL HWZ
                  go_wp2_with fail
                  go_roundw
                  case rel => exact ⟨m + 1, c7, xs7, l7, vl7, chs7, by go_num, by omega, by omega, HL9, HLT7, HW9, HGZ, HGTZ⟩
                  case measure => simp [intOf]; omega
              · obtain rfl : m = g.length := by omega
                have HW9 : Hid (PlS a b bl bs L S B (1 + L * (1 + S) + 20) G H lo w wr c7 xs7 chs7 to' vl7 l7 []) := by
                  have h := HW7.out
                  rw [List.drop_length] at h
                  exact h
                have HLN : Hid (l7.length ≤ nx) := by have := HL7.out; show _ ≤ _; omega
                have HW9len : Hid (l7.length ≤ 20) := by have := HLN.out; show _ ≤ 20; omega
                clear HG7 HGT7 HW7 HL7
                go_upto_region 37 with fail
                have hW9 := HW9.out
                obtain ⟨tt, htt⟩ : ∃ tt, (peekR to' L B xs7 L 0).1 = tt := ⟨_, rfl⟩
                have HPE := Lib.hid (hW9.rest.peek (now := to') (by omega) hLB)
                have hpk := hW9.ply.peek hW9.rest.whe.wst L 0 (by omega)
                rw [htt] at HPE hpk
                have hsl9 : ∀ x ∈ l7, 0 ≤ x.2.2.2 ∧ x.2.2.2 < 64 := fun x hx => by
                  obtain ⟨_, sl, hv, _, _, e2⟩ := (hW9.ply.ok x hx).pl
                  have := hv.2.1
                  omega
                have HRP : Hid (∀ w', Tks lo w' vl7 (l7) → Calls Try.prog 36 #[RW L B to' vl7] w' fun e w'' => e = .returned (.int .i64 tt) ∧ Made w' w'') := fun w' ht => by
                  rw [hpk]
                  exact RPeek_c L B lo to' vl7 _ w' (by omega) hB1 (by omega) hLB2 (by have := HW9len.out; omega) hsl9 ht
                unfold RW at HRP
                obtain ⟨c0, c1, c2, c3, c4, c5, c6⟩ := hW9.rest.cells
                obtain ⟨m0, m1, m2, m3⟩ := hW9.cells
                clear htt hpk hsl9 hW9
                go_wp2_with fail
                refine HPE.out.mono ?_
                rintro e w10 ⟨rfl, c10, hR10, hc10, hP10⟩
                have hlt9 := HF.out.lt
                have hne9 := HF.out.ne
                have HW10 : Hid (PlS a b bl bs L S B (1 + L * (1 + S) + 20) G H lo w w10 c10 xs7 chs7 to' vl7 (l7) []) := ⟨hR10, (hP10.block _ (Array.getElem?_eq_some_iff.1 HW9.out.box).1 hne9.1 hne9.2.1).trans HW9.out.box, HW9.out.tks.past hP10 hlt9.1 hlt9.2.1, HW9.out.ply, Nat.le_trans HW9.out.lo_ hP10.size⟩
                clear c0 c1 c2 c3 c4 c5 c6 m0 m1 m2 m3 hR10 hP10 HPE hlt9 hne9
                obtain ⟨c0, c1, c2, c3, c4, c5, c6⟩ := HW10.out.rest.cells
                obtain ⟨m0, m1, m2, m3⟩ := HW10.out.cells
                go_wp2_with fail
                refine (HRP.out _ HW10.out.tks).mono ?_
                rintro e w11 ⟨rfl, hM11⟩
                have HW11 := Lib.hid (HW10.out.made hM11)
                clear c0 c1 c2 c3 c4 c5 c6 m0 m1 m2 m3 hM11 HRP HW10
                have hll := HW11.out.ply.listlen HW11.out.rest.whe.wst
                have HTI := Lib.hid (tickets_c (vl := vl7) (now := to') HW11.out.rest HW11.out.tks (by omega) hB1 (by omega) (by have := HW9len.out; omega) (by have := HW9len.out; omega) (by have := HW9len.out; omega) (by rw [← HS.out]; exact HW11.out.ply.list HW11.out.rest.whe.wst.s1))
                unfold RW at HTI
                clear hll
                obtain ⟨c0, c1, c2, c3, c4, c5, c6⟩ := HW11.out.rest.cells
                obtain ⟨m0, m1, m2, m3⟩ := HW11.out.cells
                go_wp2_with fail
                refine HTI.out.mono ?_
                rintro e w12 ⟨rfl, hM12⟩
                have HW12 := Lib.hid (HW11.out.made hM12)
                clear c0 c1 c2 c3 c4 c5 c6 m0 m1 m2 m3 hM12 HTI HW11
                go_wp2_with fail
                go_roundw
                case rel => exact ⟨r + 1, to', c10, xs7, l7, vl7, chs7, nx, by go_num, by omega, rfl, by omega, by omega, by omega, by omega, HLN, HLT7, HW12⟩
                case measure => simp [intOf]; omega
      · obtain rfl : r = n := by omega
        go_wp2_with fail
        go_ret
        exact ⟨rfl, HW.out.rest.bel⟩
theorem plays (a0 a1 a2 : Int) (v : Value) (zs : List (Bool × Int)) (w : World) (h0 : (Lit.int .u8 a0).wf = true) (h1 : (Lit.int .u8 a1).wf = true) (h2 : (Lit.int .u32 a2).wf = true) (hv : SlBU w v zs) :
    Calls Try.prog 8 #[.int .u8 a0, .int .u8 a1, .int .u32 a2, v] w fun e w' => e = .returned (.bool true) ∧ Made w w' := by
  obtain ⟨⟨A, cap, rfl, hcap, hmax, hcell⟩, hz⟩ := hv
  rw [List.length_map] at hcap ⊢
  simp [Lit.wf, IntKind.min, IntKind.max, IntKind.signed, IntKind.bits] at h0 h1 h2
  refine plays_c a0 a1 a2 A cap zs w h0 h1 h2 hcap hmax (fun wr hm i p z hi => ?_) hz
  obtain ⟨d, rfl, hb, k1, k2⟩ := hcell i (.bool p, .int .u32 z) (by rw [List.getElem?_map, hi]; rfl)
  exact ⟨d, rfl, (hm.cell (by rw [addr_block]; exact hb)).trans k1, (hm.cell (by rw [addr_block, addr_block]; exact hb)).trans k2⟩
end Go.Proofs.Ytndpkonihcebeaa.Whl
