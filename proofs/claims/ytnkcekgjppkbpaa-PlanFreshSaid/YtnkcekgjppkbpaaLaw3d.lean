/- Package knelllaw03, walked: cells. -/
import Derived.Test.YtnkcekgjppkbpaaLaw3
import Derived.Test.YtnkcekgjppkbpaaPlan7
import Derived.Laws.AppendOwn
import Derived.Laws.OwnMore
namespace Go.Proofs.Ytnkcekgjppkbpaa.Law3
open Go.RowKit Go.Proofs.Ytnkcekgjppkbpaa Go.Proofs.Ytnkcekgjppkbpaa.PlanN Go.Proofs.Ytnkcekgjppkbpaa.Plan
set_option linter.unusedVariables false
set_option linter.unusedSimpArgs false

/-- A configuration's numbers, as natural ones. -/
structure Nats (xs : List Int) (W L S N T C : Nat) : Prop where
  len : xs.length = 13
  rgt : Rgt xs
  w : xs.getD 0 0 = (W : Int)
  l : xs.getD 1 0 = (L : Int)
  s : slots xs = (S : Int)
  n : xs.getD 3 0 = (N : Int)
  t : xs.getD 4 0 = (T : Int)
  c : xs.getD 7 0 = (C : Int)
theorem nats {xs : List Int} (h : xs.length = 13) (hr : Rgt xs) : ∃ W L S N T C, Nats xs W L S N T C := by
  have HG := rng hr
  obtain ⟨W, hW⟩ := Int.eq_ofNat_of_zero_le (show 0 ≤ xs.getD 0 0 by have := HG.w; omega)
  obtain ⟨L, hL⟩ := Int.eq_ofNat_of_zero_le (show 0 ≤ xs.getD 1 0 by have := HG.l; omega)
  obtain ⟨S, hS⟩ := Int.eq_ofNat_of_zero_le (show 0 ≤ slots xs by have := HG.s; omega)
  obtain ⟨N, hN⟩ := Int.eq_ofNat_of_zero_le (show 0 ≤ xs.getD 3 0 by have := HG.n; omega)
  obtain ⟨T, hT⟩ := Int.eq_ofNat_of_zero_le (show 0 ≤ xs.getD 4 0 by have := HG.t; omega)
  obtain ⟨C, hC⟩ := Int.eq_ofNat_of_zero_le (show 0 ≤ xs.getD 7 0 by have := HG.c; omega)
  exact ⟨W, L, S, N, T, C, h, hr, hW, hL, hS, hN, hT, hC⟩
section
variable {xs : List Int} {W L S N T C : Nat}
theorem Nats.shard (h : Nats xs W L S N T C) : PlanN.shard xs = ((3 + L * (1 + S) : Nat) : Int) := by
  unfold PlanN.shard; rw [h.l, h.s]; push_cast; rfl
theorem Nats.nodes (h : Nats xs W L S N T C) : PlanN.nodes xs = ((3 + W * (3 + L * (1 + S)) : Nat) : Int) := by
  unfold PlanN.nodes; rw [h.w, h.shard]; push_cast; rfl
theorem Nats.tickets (h : Nats xs W L S N T C) : PlanN.tickets xs = ((3 + W * (3 + L * (1 + S)) + 4 * N : Nat) : Int) := by
  unfold PlanN.tickets; rw [h.nodes, h.n]; push_cast; rfl
theorem Nats.conns (h : Nats xs W L S N T C) : PlanN.conns xs = ((3 + W * (3 + L * (1 + S)) + 4 * N + 3 * T : Nat) : Int) := by
  unfold PlanN.conns; rw [h.tickets, h.t]; push_cast; rfl
theorem Nats.size (h : Nats xs W L S N T C) : PlanN.size xs = ((3 + W * (3 + L * (1 + S)) + 4 * N + 3 * T + C : Nat) : Int) := by
  unfold PlanN.size; rw [h.conns, h.c]; push_cast; rfl
theorem among_nat (base i many apart : Nat) (h : i < many) : amongI (base : Int) (i : Int) (many : Int) (apart : Int) = ((base + i * apart : Nat) : Int) := by
  unfold amongI; rw [if_neg (by omega)]; push_cast; rfl
theorem within_nat (base far : Nat) : withinI (base : Int) (far : Int) = ((base + far : Nat) : Int) := by
  unfold withinI; rw [if_neg (by omega)]; push_cast; rfl
theorem Nats.at_ (h : Nats xs W L S N T C) {s : Nat} (hs : s < W) : atI xs (s : Int) = ((3 + s * (3 + L * (1 + S)) : Nat) : Int) := by
  unfold atI; rw [h.w, h.shard]; exact among_nat 3 s W _ hs
theorem Nats.map_ (h : Nats xs W L S N T C) {s k : Nat} (hs : s < W) (hk : k < L) : mapI xs (s : Int) (k : Int) = ((3 + s * (3 + L * (1 + S)) + (3 + k * (1 + S)) : Nat) : Int) := by
  unfold mapI; rw [h.at_ hs, h.l, h.s, show (1 : Int) + (S : Int) = ((1 + S : Nat) : Int) by push_cast; rfl, show (3 : Int) = ((3 : Nat) : Int) from rfl, among_nat 3 k L _ hk, within_nat]
theorem Nats.slot_ (h : Nats xs W L S N T C) {s k i : Nat} (hs : s < W) (hk : k < L) (hi : i < S) : slotI xs (s : Int) (k : Int) (i : Int) = ((3 + s * (3 + L * (1 + S)) + (3 + k * (1 + S)) + (1 + i * 1) : Nat) : Int) := by
  unfold slotI; rw [h.map_ hs hk, h.s, show (1 : Int) = ((1 : Nat) : Int) from rfl, among_nat 1 i S 1 hi, within_nat]
theorem Nats.node_ (h : Nats xs W L S N T C) {n : Nat} (hn : n < N) (j : Nat) : nodeI xs (n : Int) (j : Int) = ((3 + W * (3 + L * (1 + S)) + n * 4 + j : Nat) : Int) := by
  unfold nodeI; rw [h.nodes, h.n, show (4 : Int) = ((4 : Nat) : Int) from rfl, among_nat _ n N 4 hn, within_nat]
theorem Nats.ticket_ (h : Nats xs W L S N T C) {n : Nat} (hn : n < T) (j : Nat) : ticketI xs (n : Int) (j : Int) = ((3 + W * (3 + L * (1 + S)) + 4 * N + n * 3 + j : Nat) : Int) := by
  unfold ticketI; rw [h.tickets, h.t, show (3 : Int) = ((3 : Nat) : Int) from rfl, among_nat _ n T 3 hn, within_nat]
theorem Nats.conn_ (h : Nats xs W L S N T C) {n : Nat} (hn : n < C) : connI xs (n : Int) = ((3 + W * (3 + L * (1 + S)) + 4 * N + 3 * T + n * 1 : Nat) : Int) := by
  unfold connI; rw [h.conns, h.c, show (1 : Int) = ((1 : Nat) : Int) from rfl, among_nat _ n C 1 hn]
end

/-- The first so many numbers. -/
def rg (n : Nat) : List Value := (List.range n).map fun i => Value.int .i64 ((i : Nat) : Int)
theorem rg_succ (n : Nat) : rg n ++ [.int .i64 ((n : Nat) : Int)] = rg (n + 1) := by
  unfold rg; rw [List.range_succ, List.map_append]; rfl
theorem rg_len (n : Nat) : (rg n).length = n := by unfold rg; simp

/-- What holds of the list while it is made. -/
structure CI (w : World) (B p : Nat) (xs : List Int) (wr : World) (v : Value) (n : Nat) : Prop where
  own : wr.ownsRow (B + 1) 3 1 v n (rg n)
  box : wr.heap[B]? = some (.cells (row xs) 23 (0, 0))
  plan : IsPlan wr p xs
  md : Made w wr
  lt : p < B ∧ w.heap.size ≤ B ∧ B < wr.heap.size
theorem CI.drewN {w : World} {B p : Nat} {xs : List Int} {wr : World} {v : Value} {n : Nat} (h : CI w B p xs wr v n) (k : Nat) : CI w B p xs (wr.drewN k) v n := ⟨h.own, h.box, h.plan, below_drewN h.md k, h.lt⟩
theorem CI.app {w : World} {B p : Nat} {xs : List Int} {wr : World} {v v' : Value} {n m : Nat} (h : CI w B p xs wr v n) {o : Obj} {w2 : World} (hg : (wr.alloc o).grownBy w2 v.ownBlock) (ho : w2.ownsRow (B + 1) 3 1 v' (n + m) (rg (n + m))) : CI w B p xs w2 v' (n + m) := by
  have hlt := h.own.lt
  have hs := hg.size
  rw [World.size_alloc] at hs
  have hB := h.lt
  have keep : ∀ j, j < B + 1 → w2.heap[j]? = wr.heap[j]? := fun j hj => by
    rw [hg.block j (by rw [World.size_alloc]; omega) (fun e => by have := (hlt j e.symm).1; omega), heap_alloc_old _ _ (by omega)]
  exact ⟨ho, (keep B (by omega)).trans h.box, (keep p (by omega)).trans h.plan, ⟨hg.os.trans h.md.os, hg.tape.trans h.md.tape, hg.output.trans h.md.output, by have := h.md.size; omega, fun j hj => (keep j (by omega)).trans (h.md.block j hj)⟩, by omega⟩
theorem news1 (w : World) (a : Value) (T : TypeId) : ∀ j u, ([a] : List Value)[j]? = some u → (w.alloc (.cells #[a] T)).cell? ((⟨w.heap.size, 0, none⟩ : Addr).add j) = some u := fun j u hu => by
  rw [show (⟨w.heap.size, 0, none⟩ : Addr).add j = ⟨w.heap.size, j, none⟩ by unfold Addr.add; split <;> simp_all, cell_of_row _ _ _ _ _ _ (heap_alloc_new w _)]
  simpa using hu
theorem newsN (w : World) (l : List Value) (T : TypeId) : ∀ j u, l[j]? = some u → (w.alloc (.cells l.toArray T)).cell? ((⟨w.heap.size, 0, none⟩ : Addr).add j) = some u := fun j u hu => by
  rw [show (⟨w.heap.size, 0, none⟩ : Addr).add j = ⟨w.heap.size, j, none⟩ by unfold Addr.add; split <;> simp_all, cell_of_row _ _ _ _ _ _ (heap_alloc_new w _)]
  simpa using hu
theorem int_info : (Try.prog.info? 3).map (fun i => (i.zero, i.size, i.bytes)) = some (some (.int .i64 0), 1, 8) := by kernel_rfl
end Go.Proofs.Ytnkcekgjppkbpaa.Law3
