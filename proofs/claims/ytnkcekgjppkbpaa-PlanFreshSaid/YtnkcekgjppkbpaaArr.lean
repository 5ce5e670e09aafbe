/- Arrays of whole numbers, compared. -/
import Derived.Test.YtnkcekgjppkbpaaBase
import Derived.Laws.StructEq
namespace Go.Proofs.Ytnkcekgjppkbpaa
open Go.RowKit
section
variable {P : Program} {T e n : Nat} {kd : IntKind}

theorem run_part_int (he : P.underlying e = some (.int kd)) (cs : Array Value) (i : Nat) (v : Value) (hv : cs[i]? = some v) (w : World) : (part e cs i).run P w = .ok v w := by
  have hagg : (isAgg e).run P w = .ok false w := by
    unfold isAgg
    rw [Sem.run_bind, run_underlying he w]
    rfl
  simp [part, Sem.run_bind, hagg, hv]

theorem run_equalIn_ints (hT : P.underlying T = some (.array n e)) (he : P.underlying e = some (.int kd)) (hs : (P.info? e).map (·.size) = some 1) (d : Nat) (xs ys : List Int) (ha : xs.length = n) (hb : ys.length = n) (w : World) :
    (Op.equalIn (d + 2) T (.agg (xs.map (Value.int kd)).toArray) (.agg (ys.map (Value.int kd)).toArray)).run P w = .ok (xs == ys) w := by
  have hsz : (sizeOf e).run P w = .ok 1 w := by
    cases hq : P.info? e with
    | none => simp [hq] at hs
    | some inf => have : inf.size = 1 := by simpa [hq] using hs
                  simp [sizeOf, typeInfo, Sem.run_bind, hq, this]
  rw [Op.equalIn]
  simp only [Sem.run_bind, run_underlying hT, Result.andThen_ok, hsz]
  have key : ∀ (m k : Nat), k + m = n → ∀ w : World, (forIn (List.range' k m) ((none : Option Bool), ()) (fun i _ => (do
      let u ← part e (xs.map (Value.int kd)).toArray (i * 1)
      let v ← part e (ys.map (Value.int kd)).toArray (i * 1)
      let r ← Op.equalIn (d + 1) e u v
      if (!r) = true then pure (ForInStep.done (some false, ())) else pure (ForInStep.yield (none, ())) : Sem (ForInStep (Option Bool × Unit))))).run P w
        = .ok (if xs.drop k == ys.drop k then (none, ()) else (some false, ())) w := by
    intro m
    induction m with
    | zero =>
      intro k hk w
      rw [List.drop_of_length_le (by omega), List.drop_of_length_le (by omega)]
      rfl
    | succ m ih =>
      intro k hk w
      have hx : k < xs.length := by omega
      have hy : k < ys.length := by omega
      have px : (part e (xs.map (Value.int kd)).toArray (k * 1)).run P w = .ok (.int kd xs[k]) w := run_part_int he _ _ _ (by simp [hx]) w
      have py : (part e (ys.map (Value.int kd)).toArray (k * 1)).run P w = .ok (.int kd ys[k]) w := run_part_int he _ _ _ (by simp [hy]) w
      rw [List.range'_succ, List.forIn_cons]
      simp only [Sem.run_bind, px, py, Result.andThen_ok, run_equalIn_int w d e kd kd _ _ he]
      have hcons : (xs.drop k == ys.drop k) = (xs[k] == ys[k] && xs.drop (k + 1) == ys.drop (k + 1)) := by
        rw [List.drop_eq_getElem_cons hx, List.drop_eq_getElem_cons hy]; rfl
      rw [hcons]
      by_cases h : xs[k] = ys[k]
      · have hb : (xs[k] == ys[k]) = true := by simp [h]
        simp only [hb, Bool.not_true, Bool.false_eq_true, if_false, Sem.run_pure, Result.andThen_ok]
        rw [ih (k + 1) (by omega) w, Bool.true_and]
      · have hb : (xs[k] == ys[k]) = false := by simp [h]
        simp only [hb, Bool.not_false, if_true, Sem.run_pure, Result.andThen_ok, Bool.false_and, Bool.false_eq_true, if_false]
  rw [Std.Legacy.Range.forIn_eq_forIn_range']
  have := key n 0 (by omega) w
  simp only [List.drop_zero] at this
  simp only [Std.Legacy.Range.size, Nat.sub_zero, Nat.add_sub_cancel, Nat.div_one]
  rw [this]
  cases xs == ys <;> simp

theorem run_eql_ints (hT : P.underlying T = some (.array n e)) (he : P.underlying e = some (.int kd)) (hs : (P.info? e).map (·.size) = some 1) (xs ys : List Int) (ha : xs.length = n) (hb : ys.length = n) (w : World) :
    (binOp .eql T (.agg (xs.map (Value.int kd)).toArray) (.agg (ys.map (Value.int kd)).toArray)).run P w = .ok (.bool (xs == ys)) w := by
  rw [run_eql_struct, run_equalIn_ints hT he hs 9998 xs ys ha hb w]
  rfl
theorem run_neq_ints (hT : P.underlying T = some (.array n e)) (he : P.underlying e = some (.int kd)) (hs : (P.info? e).map (·.size) = some 1) (xs ys : List Int) (ha : xs.length = n) (hb : ys.length = n) (w : World) :
    (binOp .neq T (.agg (xs.map (Value.int kd)).toArray) (.agg (ys.map (Value.int kd)).toArray)).run P w = .ok (.bool (!(xs == ys))) w := by
  rw [run_neq_struct, run_equalIn_ints hT he hs 9998 xs ys ha hb w]
  rfl
end
end Go.Proofs.Ytnkcekgjppkbpaa
