/- Package knelllaw02, walked: do; knellref02.New. -/
import Derived.Test.YtnkcekgjppkbpaaLaw2c
import Derived.Test.YtnkcekgjppkbpaaRef2
import Derived.Test.YtnkcekgjppkbpaaOpenA
namespace Go.Proofs.Ytnkcekgjppkbpaa.Law2
open Go.RowKit Go.Proofs.Ytnkcekgjppkbpaa Go.Proofs.Ytnkcekgjppkbpaa.Cell Go.Proofs.Ytnkcekgjppkbpaa.Ref2
set_option linter.unusedVariables false
set_option linter.unusedSimpArgs false

set_option maxRecDepth 100000 in
set_option maxHeartbeats 400000 in
theorem Add_no {w : World} {a b : Nat} {c : Int} {xs : List Int} (h : Arena w a b c xs) (i : Int) (v : Int) (hi : i < 0 ∨ (xs.length : Int) ≤ i) :
    Calls Try.prog 30 #[.pointer (some ⟨a, 0, none⟩), .int .i64 i, .int .u64 v] w fun e w' => e = .returned (.int .u64 0) ∧ w = w' := by
  have hat := at_no h i hi
  clear h hi
  go_enter Try.func30, Try.ntmps30
  go_wp2_with fail
  refine hat.mono ?_
  rintro e w' ⟨rfl, rfl⟩
  go_wp2_with fail
  go_ret
  exact ⟨rfl, rfl⟩

/-- An access's kind, others as 4. -/
def kd (k : Int) : Int := if k < 0 ∨ 4 < k then 4 else k
/-- What an access does to an arena and tells. -/
def DoP (B a b : Nat) (w : World) (c : Int) (xs : List Int) (vl : Int) (ok : Bool) (e : Ending) (w' : World) : Prop :=
  e = .returned (.tuple #[.int .u64 vl, .bool ok]) ∧ Arena w' a b c xs ∧ w.heap.size ≤ w'.heap.size ∧ w'.os = w.os ∧ w'.tape = w.tape ∧ w'.output = w.output ∧ ∀ k, k < w.heap.size → k ≠ a → k ≠ b → w'.heap[k]? = w.heap[k]?

theorem dop_of {B a b : Nat} {w w1 w' : World} {c : Int} {xs : List Int} {vl : Int} {ok : Bool} (hm : Made w w1) (hA : Arena w' a b c xs) (ht : Turned a b w1 w') : DoP B a b w c xs vl ok (.returned (.tuple #[.int .u64 vl, .bool ok])) w' :=
  ⟨rfl, hA, by rw [ht.size]; exact hm.size, ht.os.trans hm.os, ht.tape.trans hm.tape, ht.output.trans hm.output, fun k h1 h2 h3 => (ht.block k h2 h3).trans (hm.block k h1)⟩

set_option maxRecDepth 100000 in
set_option maxHeartbeats 600000 in
theorem do_0y {w : World} {a b : Nat} {c : Int} {xs : List Int} (h : Arena w a b c xs) (h1 : c + 1 < 4611686018427387904) (i : Nat) (old v was : Int) (hi : i < xs.length) (hw : ∀ hi, xs[i]'hi = was) :
    Calls Try.prog 53 #[.pointer (some ⟨a, 0, none⟩), .agg #[.int .i64 0, .int .i64 (i : Int), .int .u64 old, .int .u64 v]] w (DoP 0 a b w (c + 1) xs was false) := by
  have hm : Made w (w.alloc (.cells #[.int .i64 0, .int .i64 (i : Int), .int .u64 old, .int .u64 v] 60)) := (Made.refl w).alloc (Nat.le_refl _) _
  have HM := Lib.hid hm
  have HA := Lib.hid (h.later hm)
  have HC := Lib.hid (Load_yes HA.out h1 i hi)
  rw [hw hi] at HC
  clear h hi hm hw
  go_enter Try.func53, Try.ntmps53
  go_wp2_with fail
  refine HC.out.mono ?_
  rintro e w' ⟨rfl, hA2, ht⟩
  have HA2 := Lib.hid hA2
  have HT := Lib.hid ht
  clear hA2 ht
  go_wp2_with fail
  go_ret2
  exact dop_of HM.out HA2.out HT.out

set_option maxRecDepth 100000 in
set_option maxHeartbeats 600000 in
theorem do_1y {w : World} {a b : Nat} {c : Int} {xs : List Int} (h : Arena w a b c xs) (h1 : c + 1 < 4611686018427387904) (i : Nat) (old v was : Int) (hi : i < xs.length) (hw : ∀ hi, xs[i]'hi = was) :
    Calls Try.prog 53 #[.pointer (some ⟨a, 0, none⟩), .agg #[.int .i64 1, .int .i64 (i : Int), .int .u64 old, .int .u64 v]] w (DoP 0 a b w (c + 1) (xs.set i v) 0 true) := by
  have hm : Made w (w.alloc (.cells #[.int .i64 1, .int .i64 (i : Int), .int .u64 old, .int .u64 v] 60)) := (Made.refl w).alloc (Nat.le_refl _) _
  have HM := Lib.hid hm
  have HA := Lib.hid (h.later hm)
  have HC := Lib.hid (Store_yes HA.out h1 i v hi)
  clear h hi hm hw
  go_enter Try.func53, Try.ntmps53
  go_wp2_with fail
  refine HC.out.mono ?_
  rintro e w' ⟨rfl, hA2, ht⟩
  have HA2 := Lib.hid hA2
  have HT := Lib.hid ht
  clear hA2 ht
  go_wp2_with fail
  go_ret2
  exact dop_of HM.out HA2.out HT.out

set_option maxRecDepth 100000 in
set_option maxHeartbeats 600000 in
theorem do_2y {w : World} {a b : Nat} {c : Int} {xs : List Int} (h : Arena w a b c xs) (h1 : c + 1 < 4611686018427387904) (i : Nat) (old v was : Int) (hi : i < xs.length) (hw : ∀ hi, xs[i]'hi = was) :
    Calls Try.prog 53 #[.pointer (some ⟨a, 0, none⟩), .agg #[.int .i64 2, .int .i64 (i : Int), .int .u64 old, .int .u64 v]] w (DoP 0 a b w (c + 1) (xs.set i v) was false) := by
  have hm : Made w (w.alloc (.cells #[.int .i64 2, .int .i64 (i : Int), .int .u64 old, .int .u64 v] 60)) := (Made.refl w).alloc (Nat.le_refl _) _
  have HM := Lib.hid hm
  have HA := Lib.hid (h.later hm)
  have HC := Lib.hid (Swap_yes HA.out h1 i v hi)
  rw [hw hi] at HC
  clear h hi hm hw
  go_enter Try.func53, Try.ntmps53
  go_wp2_with fail
  refine HC.out.mono ?_
  rintro e w' ⟨rfl, hA2, ht⟩
  have HA2 := Lib.hid hA2
  have HT := Lib.hid ht
  clear hA2 ht
  go_wp2_with fail
  go_ret2
  exact dop_of HM.out HA2.out HT.out

set_option maxRecDepth 100000 in
set_option maxHeartbeats 600000 in
theorem do_3y {w : World} {a b : Nat} {c : Int} {xs : List Int} (h : Arena w a b c xs) (h1 : c + 1 < 4611686018427387904) (i : Nat) (old v was : Int) (hi : i < xs.length) (hw : ∀ hi, xs[i]'hi = was) (ho : was = old) :
    Calls Try.prog 53 #[.pointer (some ⟨a, 0, none⟩), .agg #[.int .i64 3, .int .i64 (i : Int), .int .u64 old, .int .u64 v]] w (DoP 0 a b w (c + 1) (xs.set i v) 0 true) := by
  have hm : Made w (w.alloc (.cells #[.int .i64 3, .int .i64 (i : Int), .int .u64 old, .int .u64 v] 60)) := (Made.refl w).alloc (Nat.le_refl _) _
  have HM := Lib.hid hm
  have HA := Lib.hid (h.later hm)
  have HC := Lib.hid (Cas_hit HA.out h1 i old v hi ((hw hi).trans ho))
  clear h hi hm hw
  go_enter Try.func53, Try.ntmps53
  go_wp2_with fail
  refine HC.out.mono ?_
  rintro e w' ⟨rfl, hA2, ht⟩
  have HA2 := Lib.hid hA2
  have HT := Lib.hid ht
  clear hA2 ht
  go_wp2_with fail
  go_ret2
  exact dop_of HM.out HA2.out HT.out

set_option maxRecDepth 100000 in
set_option maxHeartbeats 600000 in
theorem do_3m {w : World} {a b : Nat} {c : Int} {xs : List Int} (h : Arena w a b c xs) (h1 : c + 1 < 4611686018427387904) (i : Nat) (old v was : Int) (hi : i < xs.length) (hw : ∀ hi, xs[i]'hi = was) (ho : ¬ was = old) :
    Calls Try.prog 53 #[.pointer (some ⟨a, 0, none⟩), .agg #[.int .i64 3, .int .i64 (i : Int), .int .u64 old, .int .u64 v]] w (DoP 0 a b w (c + 1) xs 0 false) := by
  have hm : Made w (w.alloc (.cells #[.int .i64 3, .int .i64 (i : Int), .int .u64 old, .int .u64 v] 60)) := (Made.refl w).alloc (Nat.le_refl _) _
  have HM := Lib.hid hm
  have HA := Lib.hid (h.later hm)
  have HC := Lib.hid (Cas_miss HA.out h1 i old v hi (by rw [hw hi]; exact ho))
  clear h hi hm hw
  go_enter Try.func53, Try.ntmps53
  go_wp2_with fail
  refine HC.out.mono ?_
  rintro e w' ⟨rfl, hA2, ht⟩
  have HA2 := Lib.hid hA2
  have HT := Lib.hid ht
  clear hA2 ht
  go_wp2_with fail
  go_ret2
  exact dop_of HM.out HA2.out HT.out

set_option maxRecDepth 100000 in
set_option maxHeartbeats 600000 in
theorem do_4y {w : World} {a b : Nat} {c : Int} {xs : List Int} (h : Arena w a b c xs) (h1 : c + 1 < 4611686018427387904) (kind : Int) (k0 : (kind == 0) = false) (k1 : (kind == 1) = false) (k2 : (kind == 2) = false) (k3 : (kind == 3) = false) (i : Nat) (old v was : Int) (hi : i < xs.length) (hw : ∀ hi, xs[i]'hi = was) (hb : 0 ≤ was ∧ was < 18446744073709551616) :
    Calls Try.prog 53 #[.pointer (some ⟨a, 0, none⟩), .agg #[.int .i64 kind, .int .i64 (i : Int), .int .u64 old, .int .u64 v]] w (DoP 0 a b w (c + 1) (xs.set i (IntKind.u64.wrap (was + v))) was false) := by
  have hm : Made w (w.alloc (.cells #[.int .i64 kind, .int .i64 (i : Int), .int .u64 old, .int .u64 v] 60)) := (Made.refl w).alloc (Nat.le_refl _) _
  have HM := Lib.hid hm
  have HA := Lib.hid (h.later hm)
  have HC := Lib.hid (Add_yes HA.out h1 i v hi (by rw [hw hi]; exact hb.1) (by rw [hw hi]; exact hb.2))
  rw [hw hi] at HC
  clear h hi hm hw
  go_enter Try.func53, Try.ntmps53
  go_wp2_with fail
  refine HC.out.mono ?_
  rintro e w' ⟨rfl, hA2, ht⟩
  have HA2 := Lib.hid hA2
  have HT := Lib.hid ht
  clear hA2 ht
  go_wp2_with fail
  go_ret2
  exact dop_of HM.out HA2.out HT.out

set_option maxRecDepth 100000 in
set_option maxHeartbeats 600000 in
theorem do_0n {w : World} {a b : Nat} {c : Int} {xs : List Int} (h : Arena w a b c xs) (h1 : c + 1 < 4611686018427387904) (i : Int) (old v was : Int) (hi : i < 0 ∨ (xs.length : Int) ≤ i) :
    Calls Try.prog 53 #[.pointer (some ⟨a, 0, none⟩), .agg #[.int .i64 0, .int .i64 i, .int .u64 old, .int .u64 v]] w (DoP 0 a b w c xs 0 false) := by
  have hm : Made w (w.alloc (.cells #[.int .i64 0, .int .i64 i, .int .u64 old, .int .u64 v] 60)) := (Made.refl w).alloc (Nat.le_refl _) _
  have HM := Lib.hid hm
  have HA := Lib.hid (h.later hm)
  have HC := Lib.hid (Load_no HA.out i hi)
  clear h hi hm
  go_enter Try.func53, Try.ntmps53
  go_wp2_with fail
  refine HC.out.mono ?_
  rintro e w' ⟨rfl, rfl⟩
  go_wp2_with fail
  go_ret2
  exact dop_of HM.out HA.out (Turned.refl a b _)

set_option maxRecDepth 100000 in
set_option maxHeartbeats 600000 in
theorem do_1n {w : World} {a b : Nat} {c : Int} {xs : List Int} (h : Arena w a b c xs) (h1 : c + 1 < 4611686018427387904) (i : Int) (old v was : Int) (hi : i < 0 ∨ (xs.length : Int) ≤ i) :
    Calls Try.prog 53 #[.pointer (some ⟨a, 0, none⟩), .agg #[.int .i64 1, .int .i64 i, .int .u64 old, .int .u64 v]] w (DoP 0 a b w c xs 0 false) := by
  have hm : Made w (w.alloc (.cells #[.int .i64 1, .int .i64 i, .int .u64 old, .int .u64 v] 60)) := (Made.refl w).alloc (Nat.le_refl _) _
  have HM := Lib.hid hm
  have HA := Lib.hid (h.later hm)
  have HC := Lib.hid (Store_no HA.out i v hi)
  clear h hi hm
  go_enter Try.func53, Try.ntmps53
  go_wp2_with fail
  refine HC.out.mono ?_
  rintro e w' ⟨rfl, rfl⟩
  go_wp2_with fail
  go_ret2
  exact dop_of HM.out HA.out (Turned.refl a b _)

set_option maxRecDepth 100000 in
set_option maxHeartbeats 600000 in
theorem do_2n {w : World} {a b : Nat} {c : Int} {xs : List Int} (h : Arena w a b c xs) (h1 : c + 1 < 4611686018427387904) (i : Int) (old v was : Int) (hi : i < 0 ∨ (xs.length : Int) ≤ i) :
    Calls Try.prog 53 #[.pointer (some ⟨a, 0, none⟩), .agg #[.int .i64 2, .int .i64 i, .int .u64 old, .int .u64 v]] w (DoP 0 a b w c xs 0 false) := by
  have hm : Made w (w.alloc (.cells #[.int .i64 2, .int .i64 i, .int .u64 old, .int .u64 v] 60)) := (Made.refl w).alloc (Nat.le_refl _) _
  have HM := Lib.hid hm
  have HA := Lib.hid (h.later hm)
  have HC := Lib.hid (Swap_no HA.out i v hi)
  clear h hi hm
  go_enter Try.func53, Try.ntmps53
  go_wp2_with fail
  refine HC.out.mono ?_
  rintro e w' ⟨rfl, rfl⟩
  go_wp2_with fail
  go_ret2
  exact dop_of HM.out HA.out (Turned.refl a b _)

set_option maxRecDepth 100000 in
set_option maxHeartbeats 600000 in
theorem do_3n {w : World} {a b : Nat} {c : Int} {xs : List Int} (h : Arena w a b c xs) (h1 : c + 1 < 4611686018427387904) (i : Int) (old v was : Int) (hi : i < 0 ∨ (xs.length : Int) ≤ i) :
    Calls Try.prog 53 #[.pointer (some ⟨a, 0, none⟩), .agg #[.int .i64 3, .int .i64 i, .int .u64 old, .int .u64 v]] w (DoP 0 a b w c xs 0 false) := by
  have hm : Made w (w.alloc (.cells #[.int .i64 3, .int .i64 i, .int .u64 old, .int .u64 v] 60)) := (Made.refl w).alloc (Nat.le_refl _) _
  have HM := Lib.hid hm
  have HA := Lib.hid (h.later hm)
  have HC := Lib.hid (Cas_no HA.out i old v hi)
  clear h hi hm
  go_enter Try.func53, Try.ntmps53
  go_wp2_with fail
  refine HC.out.mono ?_
  rintro e w' ⟨rfl, rfl⟩
  go_wp2_with fail
  go_ret2
  exact dop_of HM.out HA.out (Turned.refl a b _)

set_option maxRecDepth 100000 in
set_option maxHeartbeats 600000 in
theorem do_4n {w : World} {a b : Nat} {c : Int} {xs : List Int} (h : Arena w a b c xs) (h1 : c + 1 < 4611686018427387904) (kind : Int) (k0 : (kind == 0) = false) (k1 : (kind == 1) = false) (k2 : (kind == 2) = false) (k3 : (kind == 3) = false) (i : Int) (old v was : Int) (hi : i < 0 ∨ (xs.length : Int) ≤ i) :
    Calls Try.prog 53 #[.pointer (some ⟨a, 0, none⟩), .agg #[.int .i64 kind, .int .i64 i, .int .u64 old, .int .u64 v]] w (DoP 0 a b w c xs 0 false) := by
  have hm : Made w (w.alloc (.cells #[.int .i64 kind, .int .i64 i, .int .u64 old, .int .u64 v] 60)) := (Made.refl w).alloc (Nat.le_refl _) _
  have HM := Lib.hid hm
  have HA := Lib.hid (h.later hm)
  have HC := Lib.hid (Add_no HA.out i v hi)
  clear h hi hm
  go_enter Try.func53, Try.ntmps53
  go_wp2_with fail
  refine HC.out.mono ?_
  rintro e w' ⟨rfl, rfl⟩
  go_wp2_with fail
  go_ret2
  exact dop_of HM.out HA.out (Turned.refl a b _)

theorem alloc_two (w : World) (A B : Obj) : ((w.alloc A).alloc B).heap[w.heap.size + 1]? = some B := by
  show (w.alloc A |>.heap.push B)[w.heap.size + 1]? = some B
  rw [show w.heap.size + 1 = (w.alloc A).heap.size by simp]
  exact Array.getElem?_push_size
theorem results_cell_tmp1 {P : Program} {fn : Func} {p t : Tmp} {ty : TypeId} (h : fn.results = #[.cell p ty, .tmp t]) (tmps : Array Value) (w : World) (g : Nat) (tt : TypeId) (cs : Array Value) (fr : Nat × Nat) (d : TypeDesc)
    (hp : tmps.getD p undef = .pointer (some ⟨g, 0, none⟩)) (hg : w.heap[g]? = some (.cells cs tt fr))
    (hu : P.underlying ty = some d) (hd : (match d with | .struct _ | .array _ _ => true | _ => false) = true) (hi : (P.info? ty).map (·.size) = some cs.size) :
    (results fn tmps).run P w = .ok (.tuple #[.agg cs, tmps.getD t undef]) w := by
  have hp' : tmps[p]?.getD undef = .pointer (some ⟨g, 0, none⟩) := by simpa using hp
  simp [results, h, hp', asAddr, run_loadVar_row w g tt ty cs fr d hg hu hd hi]
theorem kd_cases (k : Int) : (k = 0 ∧ kd k = 0) ∨ (k = 1 ∧ kd k = 1) ∨ (k = 2 ∧ kd k = 2) ∨ (k = 3 ∧ kd k = 3) ∨ (((k == 0) = false ∧ (k == 1) = false ∧ (k == 2) = false ∧ (k == 3) = false) ∧ kd k = 4) := by
  unfold kd
  by_cases h0 : k = 0
  · exact .inl ⟨h0, by rw [h0]; decide⟩
  by_cases h1 : k = 1
  · exact .inr (.inl ⟨h1, by rw [h1]; decide⟩)
  by_cases h2 : k = 2
  · exact .inr (.inr (.inl ⟨h2, by rw [h2]; decide⟩))
  by_cases h3 : k = 3
  · exact .inr (.inr (.inr (.inl ⟨h3, by rw [h3]; decide⟩)))
  · refine .inr (.inr (.inr (.inr ⟨⟨by simpa using h0, by simpa using h1, by simpa using h2, by simpa using h3⟩, ?_⟩)))
    split <;> omega
/-- An access of a cell that there is. -/
theorem do_some {w : World} {a b : Nat} {c : Int} {xs : List Int} (h : Arena w a b c xs) (h1 : c + 1 < 4611686018427387904) (kind : Int) (i : Nat) (old v was : Int) (hi : i < xs.length) (hw : ∀ hi, xs[i]'hi = was) (hb : 0 ≤ was ∧ was < 18446744073709551616) :
    Calls Try.prog 53 #[.pointer (some ⟨a, 0, none⟩), .agg #[.int .i64 kind, .int .i64 (i : Int), .int .u64 old, .int .u64 v]] w (DoP 0 a b w (c + 1) (xs.set i (now (kd kind) old v was)) (val (kd kind) was) (isOk (kd kind) old was)) := by
  have hs := set_was hi (hw hi)
  rcases kd_cases kind with ⟨rfl, e⟩ | ⟨rfl, e⟩ | ⟨rfl, e⟩ | ⟨rfl, e⟩ | ⟨⟨k0, k1, k2, k3⟩, e⟩ <;> rw [e]
  · rw [show now 0 old v was = was by simp [now], show val 0 was = was by simp [val], show isOk 0 old was = false by simp [isOk], hs]
    exact do_0y h h1 i old v was hi hw
  · rw [show now 1 old v was = v by simp [now], show val 1 was = 0 by simp [val], show isOk 1 old was = true by simp [isOk]]
    exact do_1y h h1 i old v was hi hw
  · rw [show now 2 old v was = v by simp [now], show val 2 was = was by simp [val], show isOk 2 old was = false by simp [isOk]]
    exact do_2y h h1 i old v was hi hw
  · rw [show now 3 old v was = (if was = old then v else was) by simp [now], show val 3 was = 0 by simp [val], show isOk 3 old was = decide (was = old) by simp [isOk]]
    by_cases o : was = old
    · rw [if_pos o, decide_eq_true o]; exact do_3y h h1 i old v was hi hw o
    · rw [if_neg o, decide_eq_false o, hs]; exact do_3m h h1 i old v was hi hw o
  · rw [show now 4 old v was = IntKind.u64.wrap (was + v) by simp [now], show val 4 was = was by simp [val], show isOk 4 old was = false by simp [isOk]]
    exact do_4y h h1 kind k0 k1 k2 k3 i old v was hi hw hb
theorem do_none {w : World} {a b : Nat} {c : Int} {xs : List Int} (h : Arena w a b c xs) (h1 : c + 1 < 4611686018427387904) (kind : Int) (i : Int) (old v : Int) (hi : i < 0 ∨ (xs.length : Int) ≤ i) :
    Calls Try.prog 53 #[.pointer (some ⟨a, 0, none⟩), .agg #[.int .i64 kind, .int .i64 i, .int .u64 old, .int .u64 v]] w (DoP 0 a b w c xs 0 false) := by
  rcases kd_cases kind with ⟨rfl, e⟩ | ⟨rfl, e⟩ | ⟨rfl, e⟩ | ⟨rfl, e⟩ | ⟨⟨k0, k1, k2, k3⟩, e⟩
  · exact do_0n h h1 i old v 0 hi
  · exact do_1n h h1 i old v 0 hi
  · exact do_2n h h1 i old v 0 hi
  · exact do_3n h h1 i old v 0 hi
  · exact do_4n h h1 kind k0 k1 k2 k3 i old v 0 hi

set_option maxRecDepth 100000 in
set_option maxHeartbeats 400000 in
theorem RNew_no (n : Int) (h : n < 1 ∨ 1048576 < n) (w : World) : Calls Try.prog 51 #[.int .i64 n] w fun e w' => e = .returned (.tuple #[.agg #[.slice none 0 0, .int .i64 0], .int .i64 1]) ∧ Made w w' := by
  have HZ := Lib.hid (show (Try.prog.info? 71).map (·.size) = some 2 by kernel_rfl)
  rcases h with h | h
  · go_enter Try.func51, Try.ntmps51
    go_wp2_with fail
    exact bodyPost_ret (results_cell_tmp1 rfl _ _ w.heap.size 71 #[.slice none 0 0, .int .i64 0] (0, 0) _ (by simp) (heap_alloc_new _ _) Try.underlying71 rfl HZ.out) rfl ⟨rfl, (Made.refl w).alloc (Nat.le_refl _) _⟩
  · have h' : ¬ n < 1 := by omega
    go_enter Try.func51, Try.ntmps51
    go_wp2_with fail
    exact bodyPost_ret (results_cell_tmp1 rfl _ _ w.heap.size 71 #[.slice none 0 0, .int .i64 0] (0, 0) _ (by simp) (heap_alloc_new _ _) Try.underlying71 rfl HZ.out) rfl ⟨rfl, (Made.refl w).alloc (Nat.le_refl _) _⟩
set_option maxRecDepth 100000 in
set_option maxHeartbeats 400000 in
theorem RNew_yes (n : Nat) (h1 : 1 ≤ n) (h2 : n ≤ 1048576) (w : World) : Calls Try.prog 51 #[.int .i64 (n : Int)] w fun e w' => e = .returned (.tuple #[.agg #[.slice (some ⟨w.heap.size + 1, 0, none⟩) n n, .int .i64 0], .int .i64 0]) ∧ Made w w' ∧ w'.heap[w.heap.size + 1]? = some (.cells (row (List.replicate n 0)) 43 (0, 0)) := by
  have HZ := Lib.hid (show (Try.prog.info? 71).map (·.size) = some 2 by kernel_rfl)
  have hm := fun w => make_run64 n h2 w
  go_enter Try.func51, Try.ntmps51
  go_wp2_with fail
  refine bodyPost_ret (results_cell_tmp1 rfl _ _ w.heap.size 71 #[.slice (some ⟨w.heap.size + 1, 0, none⟩) n n, .int .i64 0] (0, 0) _ (by simp) (heap_alloc2_old _ _ _) Try.underlying71 rfl HZ.out) rfl ⟨rfl, ((Made.refl w).alloc (Nat.le_refl _) _).alloc (by simp) _, ?_⟩
  exact alloc_two _ _ _
end Go.Proofs.Ytnkcekgjppkbpaa.Law2
