/- Package wheel, walked: List's closure. -/
import Derived.Test.YtndpkonihcebeaaLPek
import Derived.Test.YtndpkonihcebeaaAppZ
namespace Go.Proofs.Ytndpkonihcebeaa.Whl
open Go.RowKit Go.Proofs.Ytndpkonihcebeaa Go.Proofs.Ytndpkonihcebeaa.Cell Go.Proofs.Ytndpkonihcebeaa.Seq Go.Proofs.Ytndpkonihcebeaa.Num Go.Proofs.Ytndpkonihcebeaa.SetN Go.Proofs.Ytndpkonihcebeaa.Dig Go.Proofs.Ytndpkonihcebeaa.Bits
set_option linter.unusedVariables false
set_option linter.unusedSimpArgs false
variable {a b bl bs L S B : Nat}

/-- Tickets' cells. -/
def tc (o : List (Nat × Nat × Nat)) : List Value := o.flatMap fun x => [.int .i64 (x.1 : Int), .int .i64 (x.2.1 : Int), .int .i64 (x.2.2 : Int)]
theorem tc_snoc (o : List (Nat × Nat × Nat)) (t lv sl : Nat) : tc (o ++ [(t, lv, sl)]) = tc o ++ [.int .i64 (t : Int), .int .i64 (lv : Int), .int .i64 (sl : Int)] := by simp [tc]
abbrev OT3 (v : Value) : Obj := .cells #[v] 93 (0, 0)
structure Cb3 (bo : Nat) (wA wr : World) (v : Value) (o : List (Nat × Nat × Nat)) : Prop where
  os : wr.os = wA.os
  tape : wr.tape = wA.tape
  output : wr.output = wA.output
  size : wA.heap.size ≤ wr.heap.size
  block : ∀ k, k < wA.heap.size → k ≠ bo → wr.heap[k]? = wA.heap[k]?
  lt : bo < wA.heap.size
  box : wr.heap[bo]? = some (OT3 v)
  own : wr.ownsRow wA.heap.size 99 3 v o.length (tc o)
theorem ownsRow3_same {B0 : Nat} {w w' : World} {s : Value} {n : Nat} {xs : List Value} (h : w.ownsRow B0 99 3 s n xs) (hs : ∀ g, s.ownBlock = some g → w'.heap[g]? = w.heap[g]?) : w'.ownsRow B0 99 3 s n xs := by
  obtain ⟨h1, h0 | ⟨g, cap, cur, rfl, h2, hc, h3⟩⟩ := h
  · exact ⟨h1, Or.inl h0⟩
  · exact ⟨h1, Or.inr ⟨g, cap, cur, rfl, h2, (hs g rfl).trans hc, h3⟩⟩
theorem own3_lt {B0 : Nat} {w : World} {s : Value} {n : Nat} {xs : List Value} (h : w.ownsRow B0 99 3 s n xs) {g : Nat} (hg : s.ownBlock = some g) : B0 ≤ g ∧ g < w.heap.size := by
  obtain ⟨_, h0 | ⟨g', cap, cur, rfl, h2, hc, _⟩⟩ := h
  · rw [h0.1] at hg; cases hg
  · have : g' = g := by simpa [Value.ownBlock] using hg
    exact this ▸ ⟨h2, (Array.getElem?_eq_some_iff.1 hc).1⟩
theorem Cb3.shape {bo : Nat} {wA wr : World} {v : Value} {o : List (Nat × Nat × Nat)} (h : Cb3 bo wA wr v o) : ∃ A n c, v = .slice A n c ∧ n = o.length := by
  obtain ⟨_, h0 | ⟨g', cap, cur, e, _⟩⟩ := h.own
  · exact ⟨none, 0, 0, h0.1, h0.2.symm⟩
  · exact ⟨_, _, _, e, rfl⟩
theorem Cb3.made {bo : Nat} {wA wr w2 : World} {v : Value} {o : List (Nat × Nat × Nat)} (h : Cb3 bo wA wr v o) (m : Made wr w2) : Cb3 bo wA w2 v o :=
  ⟨m.os.trans h.os, m.tape.trans h.tape, m.output.trans h.output, Nat.le_trans h.size m.size, fun k hk hne => (m.block k (Nat.lt_of_lt_of_le hk h.size)).trans (h.block k hk hne), h.lt, (m.block bo (Nat.lt_of_lt_of_le h.lt h.size)).trans h.box, ownsRow3_same h.own fun g hg => m.block g (own3_lt h.own hg).2⟩
theorem Cb3.app {bo t lv sl : Nat} {wA wr w5 : World} {v v' : Value} {o : List (Nat × Nat × Nat)} {tmp : Obj} (h : Cb3 bo wA wr v o) (hown : w5.ownsRow wA.heap.size 99 3 v' (o.length + 1) (tc o ++ [.int .i64 (t : Int), .int .i64 (lv : Int), .int .i64 (sl : Int)])) (hgrow : (wr.alloc tmp).grownBy w5 v.ownBlock) (hsb : v'.ownBlock = v.ownBlock ∨ v'.ownBlock = some (wr.alloc tmp).heap.size) :
    w5.cell? ⟨bo, 0, none⟩ = some v ∧ w5.frozen? ⟨bo, 0, none⟩ = false ∧ Cb3 bo wA (w5.setCell ⟨bo, 0, none⟩ v') v' (o ++ [(t, lv, sl)]) := by
  have hge : ∀ k, v.ownBlock = some k → wA.heap.size ≤ k := fun k hk => (own3_lt h.own hk).1
  have hsz := hgrow.size
  rw [World.size_alloc] at hsz hsb
  have hA := h.size
  have hlt := h.lt
  have old : ∀ k, k < wA.heap.size → w5.heap[k]? = wr.heap[k]? := fun k hk => by
    rw [hgrow.block k (by rw [World.size_alloc]; omega) (fun e => by have := hge k e.symm; omega), heap_alloc_old _ _ (by omega)]
  have h5 : w5.heap[bo]? = some (OT3 v) := (old bo hlt).trans h.box
  have o6 : ∀ k, k ≠ bo → (w5.setCell ⟨bo, 0, none⟩ v').heap[k]? = w5.heap[k]? := fun k hk => Cell.heap_setCell_other _ _ _ _ _ hk
  refine ⟨by rw [cell_of_row _ _ _ _ _ _ h5]; rfl, frozen_of_row _ _ _ _ _ h5, ⟨hgrow.os.trans h.os, hgrow.tape.trans h.tape, hgrow.output.trans h.output, by simp only [World.setCell, Array.size_modify]; omega, fun k hk hne => ?_, hlt, ?_, ?_⟩⟩
  · rw [o6 k hne, old k hk, h.block k hk hne]
  · rw [setCell_eq_setRow _ _ _ _ _ _ _ h5, heap_setRow_same _ _ _ _ _ _ h5]; rfl
  · rw [List.length_append, tc_snoc]
    refine ownsRow3_same hown fun g hg => o6 g ?_
    rcases hsb with e | e
    · have := hge g (e ▸ hg); omega
    · rw [e] at hg; have := Option.some.inj hg; omega
/-- What the closure looks up. -/
structure Sn (a b bl bs L S B bw ball bo gA : Nat) (Z : Zone) (xs : List Int) (wr : World) (v : Value) : Prop where
  ok : ZOk a b wr Z
  env : Env wr Z bl bs L S
  w : Blk wr Z bw (OW a bl bs L B)
  allb : wr.cell? ⟨ball, 0, none⟩ = some (.slice (some ⟨gA, 0, none⟩) xs.length xs.length)
  all : ∀ (i : Nat), i < xs.length → wr.cell? ⟨gA, i, none⟩ = some (.int .u64 (xs.getD i 0))
  box : wr.cell? ⟨bo, 0, none⟩ = some v
theorem elem_tk : ElemZ Try.prog 93 99 (.agg #[.int .i64 0, .int .i64 0, .int .i64 0]) 3 24 := ⟨by kernel_rfl, by kernel_rfl, rfl, by omega⟩
theorem reads3 (w : World) (t lv sl : Int) : ReadsZ 3 (w.alloc (.cells #[.int .i64 t, .int .i64 lv, .int .i64 sl] 99)) (some ⟨w.heap.size, 0, none⟩) 1 [.int .i64 t, .int .i64 lv, .int .i64 sl] :=
  ⟨rfl, fun j u hu => ⟨_, rfl, by
    have e : (⟨w.heap.size, 0, none⟩ : Addr).add j = ⟨w.heap.size, j, none⟩ := by unfold Addr.add; split <;> simp_all
    rw [e, cell_of_row _ _ _ _ _ _ (heap_alloc_new w (.cells #[.int .i64 t, .int .i64 lv, .int .i64 sl] 99))]
    simpa using hu⟩⟩
theorem wrap_t1 {t : Nat} (h : t < 100) : IntKind.i64.wrap (IntKind.i64.wrap ((t : Int) + 1) - 1) = (t : Int) := by
  have e1 : IntKind.i64.wrap ((t : Int) + 1) = (t : Int) + 1 := by rw [IntKind.wrap_i64]; omega
  rw [e1, IntKind.wrap_i64]; omega
set_option maxRecDepth 100000 in
set_option maxHeartbeats 8000000 in
theorem each_w {bw ball bo gA lv sl : Nat} {Z : Zone} {xs : List Int} {wA w0 : World} {v0 : Value} {o0 : List (Nat × Nat × Nat)} {ch : List Nat} {h0 : Nat} (hcb : Cb3 bo wA w0 v0 o0) (hsn : ∀ wr v o, Cb3 bo wA wr v o → Sn a b bl bs L S B bw ball bo gA Z xs wr v) (hlv : lv ≤ L) (hsl : sl < S) (hat : at_ L S lv sl < xs.length) (hh0 : xs.getD (at_ L S lv sl) 0 = (h0 : Int)) (hch : Chn L S xs ch h0) (htot : o0.length + ch.length ≤ xs.length) (hxl : xs.length ≤ 1000) :
    Calls Try.prog 75 #[.int .i64 (lv : Int), .int .i64 (sl : Int), .pointer (some ⟨ball, 0, none⟩), .pointer (some ⟨bw, 0, none⟩), .pointer (some ⟨bo, 0, none⟩)] w0 fun e w' => (∃ r, e = .returned r) ∧ ∃ v', Cb3 bo wA w' v' (o0 ++ ch.map fun t => (t, lv, sl)) := by
  have hd : Made w0 w0.drew := Made.drewN w0 1
  have sn0 := hsn _ _ _ hcb
  have snd := hsn _ _ _ (hcb.made hd)
  obtain ⟨c0, c1, c2, c3, c4, c5, c6⟩ := wv_cells sn0.w
  have k1 := sn0.allb
  have k2 := sn0.all _ hat
  rw [hh0] at k2
  have HL : Hid (Calls Try.prog 76 #[.agg (WV a bl bs L B), .int .i64 (lv : Int), .int .i64 (sl : Int)] w0.drew fun e w' => e = .returned (.int .i64 (at_ L S lv sl : Int)) ∧ (w'.cell? ⟨bw, 0, none⟩ = some (.pointer (some ⟨a, 0, none⟩)) ∧ w'.cell? ⟨bw, 1, none⟩ = some (.int .i64 (L : Int)) ∧ w'.cell? ⟨bw, 2, none⟩ = some (.int .i64 (B : Int)) ∧ w'.cell? ⟨bw, 3, none⟩ = some (.int .i64 0) ∧ w'.cell? ⟨bw, 4, none⟩ = some (.func (.func 59) #[] #[]) ∧ w'.cell? ⟨bw, 5, none⟩ = some (.func (.func 60) #[] #[.pointer (some ⟨bl, 0, none⟩), .pointer (some ⟨bs, 0, none⟩)]) ∧ w'.cell? ⟨bw, 6, none⟩ = some (.func (.func 61) #[] #[.pointer (some ⟨bl, 0, none⟩), .pointer (some ⟨bs, 0, none⟩)]) ∧ w'.cell? ⟨ball, 0, none⟩ = some (.slice (some ⟨gA, 0, none⟩) xs.length xs.length) ∧ w'.cell? ⟨gA, at_ L S lv sl, none⟩ = some (.int .u64 (h0 : Int))) ∧ Hid (Cb3 bo wA w' v0 o0)) := by
    refine (list_w (B := B) snd.ok snd.env lv sl hlv hsl).mono ?_
    rintro e w' ⟨he, hm⟩
    have hc := (hcb.made hd).made hm
    have s' := hsn _ _ _ hc
    refine ⟨he, ?_, hc⟩
    obtain ⟨g0, g1, g2, g3, g4, g5, g6⟩ := wv_cells s'.w
    exact ⟨g0, g1, g2, g3, g4, g5, g6, s'.allb, by rw [s'.all _ hat, hh0]⟩
  obtain ⟨at', hat'⟩ : ∃ x, x = at_ L S lv sl := ⟨_, rfl⟩
  rw [← hat'] at HL hat k2
  have hai : (at' : Int) < (xs.length : Int) := by omega
  have HSN := Lib.hid hsn
  have HCH := Lib.hid hch
  have HTOT := Lib.hid htot
  have HEL := Lib.hid elem_tk
  have hL8 := sn0.env.l5
  have hS64 := sn0.env.s2
  have hlI : (lv : Int) ≤ 8 := by omega
  have hsI : (sl : Int) < 64 := by omega
  clear hcb hsn hh0 hch htot hd sn0 snd hat' hL8 hS64
  go_enter Try.func75, Try.ntmps75
  go_wp2_with fail
  go_region_held3 (fun w' => w'.cell? ⟨bw, 0, none⟩ = some (.pointer (some ⟨a, 0, none⟩)) ∧ w'.cell? ⟨bw, 1, none⟩ = some (.int .i64 (L : Int)) ∧ w'.cell? ⟨bw, 2, none⟩ = some (.int .i64 (B : Int)) ∧ w'.cell? ⟨bw, 3, none⟩ = some (.int .i64 0) ∧ w'.cell? ⟨bw, 4, none⟩ = some (.func (.func 59) #[] #[]) ∧ w'.cell? ⟨bw, 5, none⟩ = some (.func (.func 60) #[] #[.pointer (some ⟨bl, 0, none⟩), .pointer (some ⟨bs, 0, none⟩)]) ∧ w'.cell? ⟨bw, 6, none⟩ = some (.func (.func 61) #[] #[.pointer (some ⟨bl, 0, none⟩), .pointer (some ⟨bs, 0, none⟩)]) ∧ w'.cell? ⟨ball, 0, none⟩ = some (.slice (some ⟨gA, 0, none⟩) xs.length xs.length) ∧ w'.cell? ⟨gA, at', none⟩ = some (.int .u64 (h0 : Int))) (first | assumption | (refine ⟨?_, ?_, ?_, ?_, ?_, ?_, ?_, ?_, ?_⟩ <;> first | assumption | simpa using c0 | simpa using c1 | simpa using c2 | simpa using c3 | simpa using c4 | simpa using c5 | simpa using c6 | simpa using k1 | simpa using k2)) (first | (go_at_call 76; refine HL.out.mono ?_; rintro e w1 ⟨rfl, hk, HC1⟩))
  clear hk HL c0 c1 c2 c3 c4 c5 c6 k1 k2
  go_wp2_with fail
  go_loopw [7] (fun iv wr => ∃ (o : List (Nat × Nat × Nat)) (rest : List Nat) (h : Nat) (A1 : Option Addr) (n1 c1 : Nat), iv = .int .u64 (h : Int) ∧ Hid (Chn L S xs rest h) ∧ Hid (o ++ rest.map (fun t => (t, lv, sl)) = o0 ++ ch.map fun t => (t, lv, sl)) ∧ Hid (n1 = o.length) ∧ Hid (Cb3 bo wA wr (.slice A1 n1 c1) o)) (fun iv _ => chLen L S xs (intOf iv).toNat)
  case atStart =>
    obtain ⟨A1, n1, c1, e1, e2⟩ := HC1.out.shape
    refine ⟨o0, ch, h0, A1, n1, c1, rfl, HCH, rfl, e2, ?_⟩
    rw [← e1]
    exact HC1
  case round =>
    clear HC1 HCH
    obtain ⟨o, rest, h, A1, n1, c1, rfl, HC1, HO1, HN1, HB1⟩ := hrel
    have hnx : n1 ≤ xs.length := by have h1 := congrArg List.length HO1.out; simp only [List.length_append, List.length_map] at h1; have := HTOT.out; have := HN1.out; omega
    have hnl : (n1 : Int) ≤ (xs.length : Int) := by omega
    have sn := HSN.out _ _ _ HB1.out
    have hbx := sn.box
    have hab := sn.allb
    clear sn
    cases rest with
    | nil =>
      have hz : h = 0 := HC1.out
      subst hz
      have HB2 : Hid (Cb3 bo wA wr (.slice A1 n1 c1) (o0 ++ ch.map fun t => (t, lv, sl))) := by have e := HO1.out; rw [List.map_nil, List.append_nil] at e; rw [← e]; exact HB1.out
      clear HC1 HO1 HN1 HB1 HSN
      go_wp2_with fail
      go_end0
      exact ⟨⟨_, rfl⟩, _, HB2.out⟩
    | cons t r =>
      obtain ⟨hh, ht100, hlkl, h', hx', hch'⟩ := HC1.out
      subst hh
      have HCH' := Lib.hid hch'
      have hh' : h' ≤ 100 := by
        cases r with
        | nil => have : h' = 0 := hch'; omega
        | cons t2 r2 => have := hch'.1; have := hch'.2.1; omega
      have HLEN : Hid (chLen L S xs h' < chLen L S xs (t + 1)) := by rw [chLen_eq hch', chLen_eq HC1.out]; show _ < _; simp
      have ht1 : ¬ (t : Int) + 1 = 0 := by omega
      have ht2 : (t : Int) < 100 := by omega
      have hlk' : ((lk L S t : Nat) : Int) < (xs.length : Int) := by omega
      have HIN : Hid (∀ w5 A5 c5, w5.ownsRow wA.heap.size 99 3 (.slice A5 (n1 + 1) c5) (n1 + 1) (tc o ++ [.int .i64 (t : Int), .int .i64 (lv : Int), .int .i64 (sl : Int)]) → (World.alloc wr (.cells #[.int .i64 (t : Int), .int .i64 (lv : Int), .int .i64 (sl : Int)] 99)).grownBy w5 (Value.slice A1 n1 c1).ownBlock → ((Value.slice A5 (n1 + 1) c5).ownBlock = (Value.slice A1 n1 c1).ownBlock ∨ (Value.slice A5 (n1 + 1) c5).ownBlock = some (World.alloc wr (.cells #[.int .i64 (t : Int), .int .i64 (lv : Int), .int .i64 (sl : Int)] 99)).heap.size) →
          w5.cell? ⟨bo, 0, none⟩ = some (.slice A1 n1 c1) ∧ w5.frozen? ⟨bo, 0, none⟩ = false ∧ Hid (Cb3 bo wA (w5.setCell ⟨bo, 0, none⟩ (.slice A5 (n1 + 1) c5)) (.slice A5 (n1 + 1) c5) (o ++ [(t, lv, sl)]))) := by
        intro w5 A5 c5 hown hgrow hsb
        have hn1 := HN1.out
        subst hn1
        exact HB1.out.app hown hgrow hsb
      have HRW : Hid (World.ownsRow wr wA.heap.size 99 3 (.slice A1 n1 c1) n1 (tc o)) := by have h1 := HB1.out.own; rw [← HN1.out] at h1; exact h1
      have HSZ : Hid (wA.heap.size ≤ wr.heap.size) := HB1.out.size
      have HO2 : Hid ((o ++ [(t, lv, sl)]) ++ r.map (fun t => (t, lv, sl)) = o0 ++ ch.map fun t => (t, lv, sl)) := by have e := HO1.out; show _ = _; rw [← e]; simp
      have HN2 : Hid (n1 + 1 = (o ++ [(t, lv, sl)]).length) := by show _ = _; rw [List.length_append, HN1.out]; rfl
      have HLK := Lib.hid (show lk L S t < xs.length from hlkl)
      have HX := Lib.hid hx'
      clear HC1 HO1 HN1 HB1 hch' hx' hlkl
      go_wp2_with (at_builtin; (refine wpList_appz _ rfl (.tmp 33) (.tmp 40) 93 rfl wA.heap.size 99 (.agg #[.int .i64 0, .int .i64 0, .int .i64 0]) 3 24 HEL.out (.slice A1 n1 c1) n1 (tc o) (by simp [Act.eval, Act.put]) (World.ownsRow.alloc HRW.out _) (some ⟨wr.heap.size, 0, none⟩) 1 1 [.int .i64 (t : Int), .int .i64 (lv : Int), .int .i64 (sl : Int)] (by simp [Act.eval, Act.put]) (reads3 wr _ _ _) (by simp [Value.oneCell']) (by unfold maxLen; omega) (by omega) (by simp only [World.size_alloc]; have := HSZ.out; omega) ?_; intro A5 c5 w5 hown hgrow hsb; obtain ⟨k1, k2, HB5⟩ := HIN.out w5 A5 c5 hown hgrow hsb; clear hown hgrow hsb))
      clear k1 k2 HIN HRW HSZ hbx hab
      generalize w5.setCell ⟨bo, 0, none⟩ (.slice A5 (n1 + 1) c5) = w6 at *
      have sn6 := HSN.out _ _ _ HB5.out
      have hd6 : Made w6 w6.drew := Made.drewN w6 1
      obtain ⟨_, _, _, _, _, _, y6⟩ := wv_cells sn6.w
      have y1 := sn6.allb
      have y2 := sn6.all _ HLK.out
      rw [HX.out] at y2
      have HLW := Lib.hid (Link_w (sn6.env.later (Ext.of_made hd6)) t (by omega))
      have HB6 := Lib.hid (HB5.out.made hd6)
      change Hid (Calls Try.prog 61 #[.int .i64 (t : Int), .pointer (some ⟨bl, 0, none⟩), .pointer (some ⟨bs, 0, none⟩)] w6.drew fun e w' => e = .returned (.int .i64 ((lk L S t : Nat) : Int)) ∧ w6.drew = w') at HLW
      clear sn6 hd6 HSN HB5
      have HWR := Lib.hid (wrap_t1 ht100)
      go_region_held3 (fun w' => w'.cell? ⟨ball, 0, none⟩ = some (.slice (some ⟨gA, 0, none⟩) xs.length xs.length) ∧ w'.cell? ⟨bw, 6, none⟩ = some (.func (.func 61) #[] #[.pointer (some ⟨bl, 0, none⟩), .pointer (some ⟨bs, 0, none⟩)]) ∧ w'.cell? ⟨gA, lk L S t, none⟩ = some (.int .u64 (h' : Int))) (first | assumption | (refine ⟨?_, ?_, ?_⟩ <;> first | assumption | simpa using y1 | simpa using y6 | simpa using y2)) (first | (go_at_call 61; (first | rw [HWR.out] | skip); refine HLW.out.mono ?_; rintro e w' ⟨rfl, rfl⟩))
      all_goals
        go_wp2_with fail
        go_roundw
        case rel => exact ⟨_, r, h', _, n1 + 1, _, rfl, HCH', HO2, HN2, HB6⟩
        case measure =>
          have h1 := HLEN.out
          have e1 : (intOf (.int .u64 (h' : Int))).toNat = h' := by simp [intOf]
          have e2 : (intOf (.int .u64 ((t : Int) + 1))).toNat = t + 1 := by simp only [intOf]; omega
          first
            | (rw [e1, e2]; exact h1)
            | (simp only [intOf, Int.toNat_natCast] at *; simpa using h1)
end Go.Proofs.Ytndpkonihcebeaa.Whl
