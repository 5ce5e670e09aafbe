/- Package knelllaw10, walked: pass's callback. -/
import Derived.Test.YtndpkonihcebeaaCbk
namespace Go.Proofs.Ytndpkonihcebeaa.Whl
open Go.RowKit Go.Proofs.Ytndpkonihcebeaa Go.Proofs.Ytndpkonihcebeaa.Cell Go.Proofs.Ytndpkonihcebeaa.Seq Go.Proofs.Ytndpkonihcebeaa.Num Go.Proofs.Ytndpkonihcebeaa.SetN Go.Proofs.Ytndpkonihcebeaa.Dig Go.Proofs.Ytndpkonihcebeaa.Bits
set_option linter.unusedVariables false
set_option linter.unusedSimpArgs false
variable {a b B0 bl bs L S B : Nat}

/-- What holds behind the callback. -/
def QCb (a b B0 be bo : Nat) (xs : List Int) (c : Int) (o : List Nat) (w : World) (Z : Zone) (c' : Int) : Prop :=
  Arena w a b c' xs ∧ c' = c ∧ Z.M be ∧ Z.M bo ∧ w.heap[be]? = some (OB true) ∧ ∃ v, w.heap[bo]? = some (OS v) ∧ Own B0 w Z v (o.map fun t : Nat => (t : Int))
theorem vals_eq (o : List Nat) : (o.map fun t : Nat => (t : Int)).map (Value.int .i64) = vals o := by simp [vals]
/-- What the walk looks up, as long as only the gathered slice turns. -/
structure Seen (bl bs L S bw bo gA : Nat) (A : Option Addr) (fs : List Nat) (xs : List Int) (wr : World) (v : Value) : Prop where
  box : wr.cell? ⟨bo, 0, none⟩ = some v
  link : wr.cell? ⟨bw, 6, none⟩ = some (.func (.func 61) #[] #[.pointer (some ⟨bl, 0, none⟩), .pointer (some ⟨bs, 0, none⟩)])
  lk : ∀ t : Nat, t < 100 → Calls Try.prog 61 #[.int .i64 (t : Int), .pointer (some ⟨bl, 0, none⟩), .pointer (some ⟨bs, 0, none⟩)] wr fun e w' => e = .returned (.int .i64 ((lk L S t : Nat) : Int)) ∧ wr = w'
  all : ∀ (i : Nat), i < xs.length → wr.cell? ⟨gA, i, none⟩ = some (.int .u64 (xs.getD i 0))
  first : ∀ (k f : Nat), fs[k]? = some f → ∃ g, A = some ⟨g, 0, none⟩ ∧ wr.cell? ⟨g, k, none⟩ = some (.int .i64 (f : Int))
theorem flat_take {cs : List (List Nat)} {k : Nat} {ch : List Nat} (h : cs[k]? = some ch) : (cs.take (k + 1)).flatten = (cs.take k).flatten ++ ch := by
  obtain ⟨hk, rfl⟩ := List.getElem?_eq_some_iff.1 h
  rw [List.take_succ_eq_append_getElem hk, List.flatten_append]; simp
theorem flat_le {cs : List (List Nat)} (k : Nat) : (cs.take k).flatten.length ≤ cs.flatten.length := by
  have e : cs.flatten = (cs.take k).flatten ++ (cs.drop k).flatten := by rw [← List.flatten_append, List.take_append_drop]
  rw [e, List.length_append]; omega
theorem Cb.shape {bo : Nat} {wA wr : World} {v : Value} {o : List Nat} (h : Cb bo wA wr v o) : ∃ A n c, v = .slice A n c ∧ n = o.length := by
  obtain ⟨_, h0 | ⟨g', cap, cur, e, _⟩⟩ := h.own
  · exact ⟨none, 0, 0, h0.1, h0.2.symm⟩
  · exact ⟨_, _, _, e, rfl⟩
set_option maxRecDepth 100000 in
set_option maxHeartbeats 8000000 in
theorem gather_w {n be bw bo : Nat} {x0 : Bool} {w : World} {Z : Zone} {c : Int} {xs : List Int} {s : Value} {fs : List Nat} {cs : List (List Nat)} (hz : ZOk a b w Z) (ha : a < B0) (hb : b < B0) (hMe : Z.M be) (hMo : Z.M bo) (heB : be < B0) (hoB : bo < B0) (hne : be ≠ a ∧ be ≠ b ∧ bo ≠ a ∧ bo ≠ b ∧ be ≠ bo) (hA : Arena w a b c xs) (hbe : w.heap[be]? = some (OB x0)) (hbo : w.heap[bo]? = some (OS (.slice none 0 0)))
    (hW : Blk w Z bw (OW a bl bs L B)) (hE : Env w Z bl bs L S) (hO : Own B0 w Z s (fs.map fun t : Nat => (t : Int))) (hB0 : B0 ≤ w.heap.size) (hl : fs.length = cs.length) (hcs : ∀ (k f : Nat) (ch : List Nat), fs[k]? = some f → cs[k]? = some ch → f < 100 ∧ Chn L S xs ch (f + 1)) (htot : cs.flatten.length ≤ 90) (hxl : xs.length ≤ 1048576) (hcl : cs.length ≤ 100) :
    Calls Try.prog 67 #[s, .pointer (some ⟨be, 0, none⟩), .pointer (some ⟨bw, 0, none⟩), .pointer (some ⟨bo, 0, none⟩)] w (EndsIn a b n w Z c (QCb a b B0 be bo xs c cs.flatten)) := by
  obtain ⟨n1, n2, n3, n4, n5⟩ := hne
  obtain ⟨w1, hw1⟩ : ∃ w1, w1 = w.setCell ⟨be, 0, none⟩ (.bool true) := ⟨_, rfl⟩
  have o1 : ∀ k : Nat, k ≠ be → w1.heap[k]? = w.heap[k]? := fun k hk => by rw [hw1]; exact Cell.heap_setCell_other _ _ _ _ _ hk
  have s1 : w1.heap.size = w.heap.size := by rw [hw1]; simp [World.setCell]
  have e1 : w1.heap[be]? = some (OB true) := by
    rw [hw1, setCell_eq_setRow _ _ _ _ _ _ _ hbe, heap_setRow_same _ _ _ _ _ _ hbe]; rfl
  have hA1 : Arena w1 a b c xs := ⟨(o1 a n1.symm).trans hA.ha, (o1 b n2.symm).trans hA.hb, hA.ne, hA.c0, hA.c1⟩
  have bl1 : ∀ {k o}, Blk w Z k o → Blk w1 Z k o := fun {k o} h => ⟨by rw [s1]; exact h.lt, h.m, h.t, (o1 k (fun e => h.m (e ▸ hMe))).trans h.obj⟩
  have HAL := Lib.hid (Cell.All_c hA1 hxl)
  have q0 : w.cell? ⟨be, 0, none⟩ = some (.bool x0) := by rw [cell_of_row _ _ _ _ _ _ hbe]; rfl
  have z0 : w.frozen? ⟨be, 0, none⟩ = false := frozen_of_row _ _ _ _ _ hbe
  obtain ⟨c0, _, _, _, _, _, _⟩ := wv_cells (bl1 hW)
  obtain ⟨A, cc, rfl⟩ : ∃ A cc, s = .slice A cs.length cc := by
    obtain ⟨_, g | ⟨g, cap, cur, e, _⟩⟩ := hO.row
    · have h0 : cs.length = 0 := by rw [← hl, ← List.length_map (f := fun t : Nat => (t : Int))]; exact g.2
      exact ⟨none, 0, by rw [h0]; exact g.1⟩
    · rw [List.length_map, hl] at e
      exact ⟨_, _, e⟩
  have HSN : Hid (∀ wA wr v o, Made w1 wA → wA.heap[w1.heap.size]? = some (.cells (Cell.row xs) 58 (0, 0)) → Cb bo wA wr v o → Seen bl bs L S bw bo w1.heap.size A fs xs wr v) := by
    intro wA wr v o hm hg hcb
    have hsz := hm.size
    have at_ : ∀ k o, w1.heap[k]? = some o → k ≠ bo → wr.heap[k]? = some o := fun k o h hk => by
      have hkl := (Array.getElem?_eq_some_iff.1 h).1
      rw [hcb.block k (by omega) hk, hm.block k hkl]; exact h
    have hEw := (⟨bl1 hE.l, bl1 hE.s, hE.l1, hE.l5, hE.s1, hE.s2⟩ : Env w1 Z bl bs L S)
    have bk : ∀ {k o}, Blk w1 Z k o → Blk wr Z k o := fun {k o} h => ⟨by have := h.lt; have := hcb.size; omega, h.m, h.t, at_ k o h.obj (fun e => h.m (e ▸ hMo))⟩
    obtain ⟨_, _, _, _, _, _, c6⟩ := wv_cells (bk (bl1 hW))
    refine ⟨by rw [cell_of_row _ _ _ _ _ _ hcb.box]; rfl, c6, fun t ht => Link_w (⟨bk hEw.l, bk hEw.s, hE.l1, hE.l5, hE.s1, hE.s2⟩ : Env wr Z bl bs L S) t (by omega), fun i hi => ?_, fun k f hk => ?_⟩
    · have hgl : w1.heap.size < wA.heap.size := (Array.getElem?_eq_some_iff.1 hg).1
      have hgr : wr.heap[w1.heap.size]? = some (.cells (Cell.row xs) 58 (0, 0)) := by
        rw [hcb.block _ hgl (by have := hz.ml bo hMo; omega)]; exact hg
      rw [cell_of_row _ _ _ _ _ _ hgr]
      unfold Cell.row
      simp [List.getD, hi]
    · obtain ⟨_, g0 | ⟨g, cap, cur, e, hge, hc, hnc, _, hcs', htk⟩⟩ := hO.row
      · have hkl := (List.getElem?_eq_some_iff.1 hk).1
        have := g0.2
        rw [List.length_map] at this
        omega
      · simp only [Value.slice.injEq] at e
        refine ⟨g, e.1, ?_⟩
        have hkl := (List.getElem?_eq_some_iff.1 hk).1
        rw [cell_of_row _ _ _ _ _ _ (at_ g _ ((o1 g (by omega)).trans hc) (by omega))]
        have e2 : (cur.toList.take ((fs.map fun t : Nat => (t : Int)).length * 1))[k]? = ((fs.map fun t : Nat => (t : Int)).map (Value.int .i64))[k]? := by rw [htk]
        rw [List.length_map] at e2
        rw [List.getElem?_take_of_lt (by omega), List.getElem?_map, List.getElem?_map, hk] at e2
        simpa using e2
  have HFIN : Hid (∀ wA wr v, Made w1 wA → Cb bo wA wr v cs.flatten → EndsIn a b n w Z c (QCb a b B0 be bo xs c cs.flatten) (.returned .nilFunc) wr) := by
    intro wA wr v hm hcb
    have hsz := hm.size
    have hsr := hcb.size
    have sm : ∀ k, k < w.heap.size → k ≠ be → k ≠ bo → wr.heap[k]? = w.heap[k]? := fun k hk h1 h2 => by
      rw [hcb.block k (by omega) h2, hm.block k (by omega), o1 k h1]
    have hown : ∀ g, v.ownBlock = some g → wA.heap.size ≤ g ∧ g < wr.heap.size := fun g hg => by
      obtain ⟨_, h0 | ⟨g', cap, cur, e, h2, hc, _⟩⟩ := hcb.own
      · rw [h0.1] at hg; cases hg
      · rw [e] at hg
        have : g' = g := by simpa [Value.ownBlock] using hg
        exact this ▸ ⟨h2, (Array.getElem?_eq_some_iff.1 hc).1⟩
    have hx : Ext w Z wr (plus Z fun k => v.ownBlock = some k) := ⟨by rw [hcb.os, hm.os, hw1]; rfl, by rw [hcb.tape, hm.tape, hw1]; rfl, by rw [hcb.output, hm.output, hw1]; rfl, by omega, fun k hk h1 h2 => ⟨by rintro (h | h); exact h1 h; have := (hown k h).1; omega, h2, sm k hk (fun e => h1 (e ▸ hMe)) (fun e => h1 (e ▸ hMo))⟩⟩
    have hbe' : wr.heap[be]? = some (OB true) := by
      have hbl := hz.ml be hMe
      rw [hcb.block be (by omega) n5, hm.block be (by omega)]; exact e1
    have hAr : Arena wr a b c xs := ⟨(sm a (hz.ml a hz.ma) n1.symm n3.symm).trans hA.ha, (sm b (hz.ml b hz.mb) n2.symm n4.symm).trans hA.hb, hA.ne, hA.c0, hA.c1⟩
    have hQ : QCb a b B0 be bo xs c cs.flatten wr (plus Z fun k => v.ownBlock = some k) c := by
      refine ⟨hAr, rfl, Or.inl hMe, Or.inl hMo, hbe', v, hcb.box, ⟨?_, fun g hg => ⟨Or.inr hg, by have := (hown g hg).1; omega⟩⟩⟩
      rw [vals_eq, List.length_map]
      obtain ⟨h1, h0 | ⟨g', cap, cur, e, h2, h3⟩⟩ := hcb.own
      · exact ⟨h1, Or.inl h0⟩
      · exact ⟨h1, Or.inr ⟨g', cap, cur, e, by omega, h3⟩⟩
    refine ⟨_, plus Z fun k => v.ownBlock = some k, rfl, ⟨hx, rfl, fun k hk => sm k (hz.tl k hk) (fun e => hz.ap be hMe (e ▸ hk)) (fun e => hz.ap bo hMo (e ▸ hk))⟩, ⟨Or.inl hz.ma, Or.inl hz.mb, ?_, fun k hk => by have := hz.tl k hk; omega, ?_⟩, Cnt.of hAr, ?_⟩
    · rintro k (h | h)
      · have := hz.ml k h; omega
      · exact (hown k h).2
    · rintro k (h | h) ht
      · exact hz.ap k h ht
      · have := (hown k h).1; have := hz.tl k ht; omega
    · cases n with
      | zero => exact ⟨rfl, hQ⟩
      | succ n => exact Or.inl ⟨rfl, hQ⟩
  have HCB0 : Hid (∀ wA, Made w1 wA → Cb bo wA wA (.slice none 0 0) []) := fun wA hm => ⟨rfl, rfl, rfl, Nat.le_refl _, fun _ _ _ => rfl, by have := hz.ml bo hMo; have := hm.size; omega, (hm.block bo (by have := hz.ml bo hMo; omega)).trans ((o1 bo n5.symm).trans hbo), ⟨rfl, Or.inl ⟨rfl, rfl⟩⟩⟩
  have HW := Lib.hid hw1
  have HCS := Lib.hid hcs
  have HLN := Lib.hid hl
  have HTOT := Lib.hid htot
  have HEL := Lib.hid elem_int
  have hcl' : (cs.length : Int) ≤ 100 := by omega
  rw [hw1] at c0
  clear hz hMe hMo heB hoB hA hbe hbo hW hE hO hB0 hl hcs htot n1 n2 n3 n4 n5 o1 s1 e1 hA1 bl1 hw1 hcl ha hb
  obtain ⟨m, hm⟩ : ∃ m, m = cs.length := ⟨_, rfl⟩
  rw [← hm] at hcl' ⊢
  have HMM := Lib.hid hm
  clear hm
  go_enter Try.func67, Try.ntmps67
  go_wp2_with fail
  rw [← HW.out]
  refine HAL.out.mono ?_
  rintro e wA ⟨rfl, hgA, hMA⟩
  have HGA := Lib.hid hgA
  have HMA := Lib.hid hMA
  clear HAL hgA hMA q0 z0 c0 HW
  go_wp2_with fail
  go_loopw [15] (fun iv wr => ∃ k : Nat, k ≤ m ∧ iv = .int .i64 (k : Int) ∧ ∃ v, Hid (Cb bo wA wr v (cs.take k).flatten)) (fun iv _ => (m - intOf iv).toNat)
  case atStart => exact ⟨0, by omega, rfl, _, by rw [List.take_zero]; exact HCB0.out wA HMA.out⟩
  case round =>
    clear HCB0
    obtain ⟨k, hk, rfl, v, HCB⟩ := hrel
    by_cases hkm : k < m
    · have hk' : (k : Int) < (m : Int) := by omega
      have hkc : k < cs.length := by have := HMM.out; omega
      obtain ⟨f, hfk⟩ : ∃ f, fs[k]? = some f := ⟨_, List.getElem?_eq_getElem (by have := HLN.out; omega)⟩
      obtain ⟨hf100, hch⟩ := HCS.out k f cs[k] hfk (List.getElem?_eq_getElem hkc)
      have HCH := Lib.hid hch
      have HCK := Lib.hid (flat_take (List.getElem?_eq_getElem hkc))
      obtain ⟨ch, hche⟩ : ∃ ch, ch = cs[k] := ⟨_, rfl⟩
      rw [← hche] at HCH HCK
      obtain ⟨g, rfl, hg1⟩ := (HSN.out wA wr v _ HMA.out HGA.out HCB.out).first k f hfk
      have hf1 : (f : Int) < 100 := by omega
      have hle := flat_le (cs := cs) (k + 1)
      have HOL : Hid ((cs.take (k + 1)).flatten.length ≤ 90) := Nat.le_trans hle HTOT.out
      clear hch hche hle hfk
      obtain ⟨A0, n0, c0, rfl, hn0⟩ := HCB.out.shape
      have HN0 := Lib.hid hn0
      clear hn0
      go_wp2_with fail
      go_loopw [9] (fun iv wr => ∃ (o rest : List Nat) (h : Nat) (A1 : Option Addr) (n1 c1 : Nat), iv = .int .i64 (h : Int) ∧ Hid (Chn L S xs rest h) ∧ Hid (o ++ rest = (cs.take (k + 1)).flatten) ∧ Hid (n1 = o.length) ∧ Hid (Cb bo wA wr (.slice A1 n1 c1) o)) (fun iv _ => chLen L S xs (intOf iv).toNat)
      case atStart => exact ⟨_, ch, f + 1, _, _, _, by push_cast; rfl, HCH, HCK.out.symm, HN0, HCB⟩
      case round =>
        clear HCH HCK HCB HN0 hg1
        obtain ⟨o, rest, h, A1, n1, c1, rfl, HC1, HO1, HN1, HB1⟩ := hrel
        have hn90 : n1 ≤ 90 := by have h1 := congrArg List.length HO1.out; rw [List.length_append] at h1; have := HOL.out; have := HN1.out; omega
        have hnl : (n1 : Int) < 100 := by omega
        have hbx := (HSN.out wA _ _ _ HMA.out HGA.out HB1.out).box
        cases rest with
        | nil =>
          have h0 : h = 0 := HC1.out
          subst h0
          have HB2 : Hid (Cb bo wA wr (.slice A1 n1 c1) (cs.take (k + 1)).flatten) := by have e := HO1.out; rw [List.append_nil] at e; rw [← e]; exact HB1.out
          clear HC1 HO1 HN1 HB1 HSN HFIN HOL
          go_wp2_with fail
          go_roundw
          case rel => exact ⟨k + 1, by omega, by go_num, _, HB2⟩
          case measure => simp [intOf]; omega
        | cons t r =>
          obtain ⟨hh, ht100, hlkl, h', hx', hch'⟩ := HC1.out
          subst hh
          have HCH' := Lib.hid hch'
          have hh' : h' ≤ 100 := by
            cases r with
            | nil => have : h' = 0 := hch'; omega
            | cons t2 r2 => have := hch'.1; have := hch'.2.1; omega
          have HLEN : Hid (chLen L S xs h' < chLen L S xs (t + 1)) := by rw [chLen_eq hch', chLen_eq HC1.out]; show _ < _; simp
          have ht1 : 0 < (t : Int) + 1 := by omega
          have hlk' : ((lk L S t : Nat) : Int) < (xs.length : Int) := by omega
          have hh1 : (h' : Int) ≤ 100 := by omega
          have HIN : Hid (∀ w5 A5 c5, w5.ownsRow wA.heap.size 3 1 (.slice A5 (n1 + 1) c5) (n1 + 1) (vals o ++ [.int .i64 (t : Int)]) → (World.alloc wr (.cells #[.int .i64 (t : Int)] 3)).grownBy w5 (Value.slice A1 n1 c1).ownBlock → ((Value.slice A5 (n1 + 1) c5).ownBlock = (Value.slice A1 n1 c1).ownBlock ∨ (Value.slice A5 (n1 + 1) c5).ownBlock = some (World.alloc wr (.cells #[.int .i64 (t : Int)] 3)).heap.size) →
              w5.cell? ⟨bo, 0, none⟩ = some (.slice A1 n1 c1) ∧ w5.frozen? ⟨bo, 0, none⟩ = false ∧ Hid (Cb bo wA (w5.setCell ⟨bo, 0, none⟩ (.slice A5 (n1 + 1) c5)) (.slice A5 (n1 + 1) c5) (o ++ [t])) ∧ (w5.setCell ⟨bo, 0, none⟩ (.slice A5 (n1 + 1) c5)).cell? ⟨bw, 6, none⟩ = some (.func (.func 61) #[] #[.pointer (some ⟨bl, 0, none⟩), .pointer (some ⟨bs, 0, none⟩)]) ∧ (w5.setCell ⟨bo, 0, none⟩ (.slice A5 (n1 + 1) c5)).cell? ⟨w1.heap.size, lk L S t, none⟩ = some (.int .u64 (h' : Int)) ∧ Hid (Calls Try.prog 61 #[.int .i64 (t : Int), .pointer (some ⟨bl, 0, none⟩), .pointer (some ⟨bs, 0, none⟩)] (w5.setCell ⟨bo, 0, none⟩ (.slice A5 (n1 + 1) c5)) fun e w' => e = .returned (.int .i64 ((lk L S t : Nat) : Int)) ∧ (w5.setCell ⟨bo, 0, none⟩ (.slice A5 (n1 + 1) c5)) = w')) := by
            intro w5 A5 c5 hown hgrow hsb
            have hn1 := HN1.out
            subst hn1
            obtain ⟨k1, k2, k3⟩ := HB1.out.app hown hgrow hsb
            have hs := HSN.out wA _ _ _ HMA.out HGA.out k3
            exact ⟨k1, k2, k3, hs.link, by rw [hs.all _ hlkl, hx'], hs.lk t ht100⟩
          have HRW : Hid (World.ownsRow wr wA.heap.size 3 1 (.slice A1 n1 c1) n1 (vals o)) := by have h1 := HB1.out.own; rw [← HN1.out] at h1; exact h1
          have HSZ : Hid (wA.heap.size ≤ wr.heap.size) := HB1.out.size
          have HO2 : Hid ((o ++ [t]) ++ r = (cs.take (k + 1)).flatten) := by have e := HO1.out; show _ = _; rw [← e]; simp
          have HN2 : Hid (n1 + 1 = (o ++ [t]).length) := by show _ = _; rw [List.length_append, HN1.out]; rfl
          clear HC1 HO1 HN1 HB1 HSN HFIN HOL hch' hx' hlkl
          go_wp2_with (at_builtin; (refine wpList_app _ rfl (.tmp 37) (.tmp 40) 23 rfl wA.heap.size 3 (.int .i64 0) 8 HEL.out (.slice A1 n1 c1) n1 (vals o) (by simp [Act.eval, Act.put]) (World.ownsRow.alloc HRW.out _) (some ⟨wr.heap.size, 0, none⟩) 1 1 [.int .i64 (t : Int)] (by simp [Act.eval, Act.put]) (Reads.row (cs := #[.int .i64 (t : Int)]) (heap_alloc_new wr _) rfl) (by simp [Value.oneCell']) (by unfold maxLen; omega) (by omega) (by simp only [World.size_alloc]; have := HSZ.out; omega) ?_; intro A5 c5 w5 hown hgrow hsb; obtain ⟨k1, k2, HB5, k4, k5, HK5⟩ := HIN.out w5 A5 c5 hown hgrow hsb; clear hown hgrow hsb))
          refine HK5.out.mono ?_
          rintro e w' ⟨rfl, rfl⟩
          go_wp2_with fail
          go_roundw
          case rel => exact ⟨_, r, h', _, n1 + 1, _, rfl, HCH', HO2, HN2, HB5⟩
          case measure =>
            have h1 := HLEN.out
            have e1 : (intOf (.int .i64 (h' : Int))).toNat = h' := by simp [intOf]
            have e2 : (intOf (.int .i64 ((t : Int) + 1))).toNat = t + 1 := by simp only [intOf]; omega
            first
              | (rw [e1, e2]; exact h1)
              | (simp only [intOf, Int.toNat_natCast] at *; simpa using h1)
    · obtain rfl : k = m := by omega
      have HB2 : Hid (Cb bo wA wr v cs.flatten) := by have e := HCB.out; rw [HMM.out, List.take_length] at e; exact e
      have HE := Lib.hid (HFIN.out wA wr v HMA.out HB2.out)
      clear HCB HB2 HSN HFIN
      go_wp2_with fail
      go_ret
      exact HE.out
end Go.Proofs.Ytndpkonihcebeaa.Whl
