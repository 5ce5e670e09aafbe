/- Layer 8's laws: what holds between rounds of one worker, with slices that never turn and one slice that the law fills. -/
import Derived.Test.YthllplocbciepaaBackI
namespace Go.Proofs.Ythllplocbciepaa.Kod.Eight
open Go.RowKit Go.Proofs.Ythllplocbciepaa Go.Proofs.Ythllplocbciepaa.Cell Go.Proofs.Ythllplocbciepaa.Wd
set_option linter.unusedVariables false
set_option linter.unusedSimpArgs false
variable {a b : Nat} {gb : Nat → Nat}

/-- What holds between rounds of one worker. -/
structure R8 (a b : Nat) (gb : Nat → Nat) (B g m n f : Nat) (x : W8) (s : List Int) (Z : List (Option Addr × List Value)) (own : Option Nat) (w0 wr : World) : Prop where
  ex : ∃ ks τ rs L, Ready (S8 a b gb) m n (mk a b gb ks τ) rs L wr ∧ Fit τ.xs s x f ∧ τ.r = [x] ∧ L.gh = [g] ∧ Old (S8 a b gb) B wr L ∧ (∀ z ∈ Z, Lies (S8 a b gb) wr L z.1 z.2) ∧ (∀ k, L.scr k ↔ own = some k)
  bel : Below B w0 wr
  low : ∀ k, own = some k → B ≤ k
/-- A slice of whether to pop, among those that never turn. -/
def Sl (Z : List (Option Addr × List Value)) (v : Value) (l : List Bool) : Prop := ∃ A N c, v = .slice A N c ∧ N = l.length ∧ N ≤ c ∧ c ≤ 9223372036854775807 ∧ (A, l.map Value.bool) ∈ Z
theorem R8.round {B g M Nn F m n f N c : Nat} {x : W8} {s : List Int} {Z : List (Option Addr × List Value)} {own : Option Nat} {w0 wr : World} {l : List Bool} {A : Option Addr} (h : R8 a b gb B g M Nn F x s Z own w0 wr) (hz : (A, l.map Value.bool) ∈ Z) (hN : Hid (N = l.length)) (hNc : N ≤ c) (hc : c ≤ 9223372036854775807) (hm : m + 3 * l.length ≤ M) (hn : n + 2 * (3 * l.length) ≤ Nn) (hf : f + l.length ≤ F) :
    Calls Try.prog 51 #[stk8 a, .slice A N c, .pointer (some ⟨g, 0, none⟩)] wr fun e w1 => ∃ v, e = .returned v ∧ (v = .nilFunc ∨ ∃ f cap, v = .func (.func f) #[] cap) ∧
      Hid (Calls Try.prog 37 #[v] w1 fun e w2 => ∃ tb, e = .returned (.pointer (some ⟨tb, 0, none⟩)) ∧
        Hid (∀ most : Nat, 3 * l.length ≤ most → Calls Try.prog 45 #[.pointer (some ⟨tb, 0, none⟩), .int .i64 (most : Int)] w2 fun e w3 => e = .returned (.bool true) ∧ Hid (R8 a b gb B g m n f (l.foldl act8 (s, x)).2 (l.foldl act8 (s, x)).1 Z own w0 w3) ∧ (∀ k, own = some k → w3.heap[k]? = wr.heap[k]?) ∧ wr.heap.size ≤ w3.heap.size)) := by
  obtain ⟨ks, τ, rs, L, hr, hft, hx, hgh, hold, hl, hscr⟩ := h.ex
  have hx0 : τ.r[0]? = some x := by rw [hx]; rfl
  have hr1 := hr.lower hm hn
  refine (code_r hr1 (j := 0) (by rw [hgh]; rfl) hx0 hN hNc hc (hl _ hz)).mono ?_
  rintro e w1 ⟨v, L1, k, τ1, rfl, e1, k1, r1, p1, he⟩
  refine ⟨v, rfl, p1.func, ?_⟩
  show Calls _ _ _ _ _
  refine (New_c p1.func).mono ?_
  rintro e w2 ⟨rfl, rfl⟩
  refine ⟨_, rfl, ?_⟩
  show ∀ most : Nat, _ → _
  intro most hmost
  have r2 := r1.addtask p1
  have e2 := Ext.addtask (S := S8 a b gb) (w := w1) (L := L1) v
  have hlen : L1.ts.length = ks.length := r1.inv.nts.trans r1.len.symm
  refine (fin_r (wb := 0) (m := m) (n := n) r2 (by show (L1.ts ++ [w1.heap.size])[ks.length]? = _; rw [← hlen]; simp) he hx0 (hft.less hf) hmost).mono ?_
  rintro e w3 ⟨rfl, rs3, L3, τ3, e3, k3, r3, f3, hr3, hl3⟩
  have e123 := (e1.trans e2).trans e3
  refine ⟨rfl, ?_, fun k hk => ?_, e123.size⟩
  · refine ⟨⟨_, τ3, rs3, L3, r3, f3, by rw [hr3, hx]; rfl, by rw [k3.gh]; show L1.gh = _; rw [k1.gh, hgh], hold.later e123, fun z hz => (hl z hz).later e123, fun k => ?_⟩, h.bel.trans (hold.below e123), h.low⟩
    rw [k3.scr]
    show L1.scr k ↔ _
    rw [k1.scr]
    exact hscr k
  · have h1 := (hscr k).2 hk
    rw [k3.same k (by show L1.scr k; rw [k1.scr]; exact h1), heap_alloc_old _ _ (Nat.lt_of_lt_of_le (hr.inv.scra k h1).2.2.2.2 e1.size), k1.same k h1]
theorem R8.later {B g m n f : Nat} {x : W8} {s : List Int} {Z : List (Option Addr × List Value)} {own : Option Nat} {w0 wr w' : World} (h : R8 a b gb B g m n f x s Z own w0 wr) (hm : Made wr w') : R8 a b gb B g m n f x s Z own w0 w' := by
  obtain ⟨ks, τ, rs, L, hr, hft, hx, hgh, hold, hl, hscr⟩ := h.ex
  have e := Ext.of_made (S := S8 a b gb) (L := L) hm
  exact ⟨⟨ks, τ, rs, L, hr.later hm, hft, hx, hgh, hold.later e, fun z hz => (hl z hz).later e, hscr⟩, h.bel.trans (hold.below e), h.low⟩
theorem R8.own_lt {B g m n f : Nat} {x : W8} {s : List Int} {Z : List (Option Addr × List Value)} {own : Option Nat} {w0 wr : World} (h : R8 a b gb B g m n f x s Z own w0 wr) {k : Nat} (hk : own = some k) : k < wr.heap.size := by
  obtain ⟨ks, τ, rs, L, hr, hft, hx, hgh, hold, hl, hscr⟩ := h.ex
  exact (hr.inv.scra k ((hscr k).2 hk)).2.2.2.2
/-- A new slice that never turns is noted. -/
theorem R8.note {B g m n f N : Nat} {x : W8} {s : List Int} {Z : List (Option Addr × List Value)} {own : Option Nat} {w0 wr w' : World} {E : TypeId} {v : Value} {vs : List Value} (h : R8 a b gb B g m n f x s Z own w0 wr) (hm : Made wr w') (hw : w'.ownsRow wr.heap.size E 1 v N vs) :
    ∃ A c, v = .slice A N c ∧ N = vs.length ∧ N ≤ c ∧ c ≤ maxLen ∧ R8 a b gb B g m n f x s ((A, vs) :: Z) own w0 w' := by
  have h' := h.later hm
  obtain ⟨ks, τ, rs, L, hr, hft, hx, hgh, hold, hl, hscr⟩ := h.ex
  have e := Ext.of_made (S := S8 a b gb) (L := L) hm
  obtain ⟨A, c, rfl, hN, hli⟩ := owns_lies (S := S8 a b gb) (L := L) hw (fun k hk => hr.inv.new (hw.lt k hk).1)
  refine ⟨A, c, rfl, hN, ?_, ?_, ⟨ks, τ, rs, L, hr.later hm, hft, hx, hgh, hold.later e, fun z hz => ?_, hscr⟩, h'.bel, h.low⟩
  · rcases hw.2 with ⟨h1, h2⟩ | ⟨g, cap, cur, h1, h2, h3, h4, h5, _⟩
    · simp at h1; omega
    · simp at h1; omega
  · rcases hw.2 with ⟨h1, h2⟩ | ⟨g, cap, cur, h1, h2, h3, h4, h5, _⟩
    · simp at h1; omega
    · simp at h1; omega
  · rcases List.mem_cons.1 hz with rfl | hz
    · exact hli
    · exact (hl z hz).later e
theorem R8.list {B g m n f : Nat} {x : W8} {s : List Int} {Z : List (Option Addr × List Value)} {own : Option Nat} {w0 wr : World} (h : R8 a b gb B g m n f x s Z own w0 wr) :
    Calls Try.prog 54 #[stk8 a] wr fun e w' => ∃ A c, e = .returned (.slice A s.length c) ∧ s.length ≤ c ∧ c ≤ maxLen ∧ Hid (R8 a b gb B g m n f x s ((A, s.map (.int .i64)) :: Z) own w0 w') ∧ Made wr w' := by
  have h0 := h
  obtain ⟨ks, τ, rs, L, hr, hft, hx, hgh, hold, hl, hscr⟩ := h.ex
  refine (List_r hr hft).mono ?_
  rintro e w' ⟨A, c, rfl, hrow, hm⟩
  obtain ⟨A', c', hv, _, h2, h3, h4⟩ := h0.note hm hrow
  obtain ⟨rfl, _, rfl⟩ : A = A' ∧ s.length = s.length ∧ c = c' := by simpa using hv
  exact ⟨A, c, rfl, h2, h3, h4, hm⟩
/-- The slice that the law fills has grown. -/
theorem R8.grow {B g m n f : Nat} {x : W8} {s : List Int} {Z : List (Option Addr × List Value)} {w0 wr w' : World} {o : Obj} {v v' : Value} {E : TypeId} {N : Nat} {vs : List Value} (h : R8 a b gb B g m n f x s Z v.ownBlock w0 wr) (hgrow : (wr.alloc o).grownBy w' v.ownBlock) (hown : w'.ownsRow B E 1 v' N vs) (hat : v.ownBlock = v'.ownBlock ∨ ∀ k, v'.ownBlock = some k → wr.heap.size ≤ k) : R8 a b gb B g m n f x s Z v'.ownBlock w0 w' := by
  obtain ⟨ks, τ, rs, L, hr, hft, hx, hgh, hold, hl, hscr⟩ := h.ex
  have hma : Made wr (wr.alloc o) := (Made.refl _).alloc (Nat.le_refl _) _
  have hw : Wrote L.scr wr w' := ((Wrote.of_made hma).trans (Wrote.of_grown hgrow)).mono (fun k _ hk => (hscr k).2 hk) |> fun h => h
  have hX : ∀ k, v'.ownBlock = some k → (L.scr k ∨ wr.heap.size ≤ k) ∧ k < w'.heap.size := fun k hk => by
    refine ⟨?_, (hown.lt k hk).2⟩
    rcases hat with hat | hat
    · exact Or.inl ((hscr k).2 (hat.trans hk))
    · exact Or.inr (hat k hk)
  have e := Ext.rescr (S := S8 a b gb) (L := L) hw (X := fun k => v'.ownBlock = some k) (fun k hk => (hX k hk).1)
  exact ⟨⟨ks, τ, rs, _, hr.rescr hw hX, hft, hx, hgh, hold.rescr hw (fun k hk => (hX k hk).1), fun z hz => (hl z hz).later e, fun k => Iff.rfl⟩, h.bel.trans (hold.below e), fun k hk => (hown.lt k hk).1⟩
theorem R8.lie {B g m n f : Nat} {x : W8} {s : List Int} {Z : List (Option Addr × List Value)} {own : Option Nat} {w0 wr : World} (h : R8 a b gb B g m n f x s Z own w0 wr) {z : Option Addr × List Value} (hz : z ∈ Z) : ∀ (i : Nat) (v : Value), z.2[i]? = some v → ∃ d : Addr, z.1 = some d ∧ wr.cell? (d.add i) = some v := by
  obtain ⟨ks, τ, rs, L, hr, hft, hx, hgh, hold, hl, hscr⟩ := h.ex
  intro i v hv
  obtain ⟨d, h1, _, _, h2⟩ := hl z hz i v hv
  exact ⟨d, h1, h2⟩
theorem R8.wrong {B g m n f : Nat} {x : W8} {s : List Int} {Z : List (Option Addr × List Value)} {own : Option Nat} {w0 wr : World} (h : R8 a b gb B g m n f x s Z own w0 wr) : wr.cell? ⟨g, 4, none⟩ = some (.bool x.wrong) := by
  obtain ⟨ks, τ, rs, L, hr, hft, hx, hgh, hold, hl, hscr⟩ := h.ex
  obtain ⟨hv, sv, hJ⟩ := hr.inv.rest
  have := (hJ.wk 0 x g (by show τ.r[0]? = _; rw [hx]; rfl) (by rw [hgh]; rfl)).cells
  rw [cell_of_row _ _ _ _ _ _ this]
  rfl
theorem R8.bel_le {B g m n f : Nat} {x : W8} {s : List Int} {Z : List (Option Addr × List Value)} {own : Option Nat} {w0 wr : World} (h : R8 a b gb B g m n f x s Z own w0 wr) : B ≤ wr.heap.size := by
  obtain ⟨ks, τ, rs, L, hr, hft, hx, hgh, hold, hl, hscr⟩ := h.ex
  exact hold.le
theorem R8.lower {B g m n f m' n' f' : Nat} {x : W8} {s : List Int} {Z : List (Option Addr × List Value)} {own : Option Nat} {w0 wr : World} (h : R8 a b gb B g m n f x s Z own w0 wr) (h1 : m' ≤ m) (h2 : n' ≤ n) (h3 : f' ≤ f) : R8 a b gb B g m' n' f' x s Z own w0 wr := by
  obtain ⟨ks, τ, rs, L, hr, hft, hx, hgh, hold, hl, hscr⟩ := h.ex
  exact ⟨⟨ks, τ, rs, L, hr.lower h1 h2, hft.less h3, hx, hgh, hold, hl, hscr⟩, h.bel, h.low⟩
/-- A slice that the law will fill is chosen. -/
theorem R8.pick {B g m n f : Nat} {x : W8} {s : List Int} {Z : List (Option Addr × List Value)} {w0 wr w' : World} {v : Value} (h : R8 a b gb B g m n f x s Z none w0 wr) (hm : Made wr w') (hv : ∀ k, v.ownBlock = some k → wr.heap.size ≤ k ∧ k < w'.heap.size) : R8 a b gb B g m n f x s Z v.ownBlock w0 w' := by
  have hbel := (h.later hm).bel
  obtain ⟨ks, τ, rs, L, hr, hft, hx, hgh, hold, hl, hscr⟩ := h.ex
  have hw : Wrote L.scr wr w' := Wrote.of_made hm
  have hX : ∀ k, v.ownBlock = some k → (L.scr k ∨ wr.heap.size ≤ k) ∧ k < w'.heap.size := fun k hk => ⟨Or.inr (hv k hk).1, (hv k hk).2⟩
  have e := Ext.rescr (S := S8 a b gb) (L := L) hw (X := fun k => v.ownBlock = some k) (fun k hk => (hX k hk).1)
  exact ⟨⟨ks, τ, rs, _, hr.rescr hw hX, hft, hx, hgh, hold.rescr hw (fun k hk => (hX k hk).1), fun z hz => (hl z hz).later e, fun k => Iff.rfl⟩, hbel, fun k hk => Nat.le_trans hold.le (hv k hk).1⟩
/-- The beginning of StackBack's third loop. -/
theorem back_begin {B M N k s u : Nat} {w0 w W wr : World} {pv tv hv : Value} {xs : List Int} (hk : k < 30) (hxs : xs = List.replicate (1 + k) 0) (hA : Arena w a b 0 xs) (hN : N < 4611686018427387904) (hm : Made w W) (h : L2 w.heap.size W wr k s u pv tv hv) (h0 : Below B w0 w) (hB : B ≤ a ∧ B ≤ b ∧ B ≤ w.heap.size) {R : Array Value} {t : TypeId} (hstk : wr.heap[w.heap.size]? = some (.cells R t (0, 0))) :
    ∃ A c A2 c2, pv = .slice A s c ∧ tv = .slice A2 u c2 ∧ s ≤ c ∧ c ≤ maxLen ∧ u ≤ c2 ∧ c2 ≤ maxLen ∧ R8 a b gb B (w.heap.size + 1) M N 900 (xb k) [] [(some ⟨w.heap.size, 0, none⟩, R.toList), (A, List.replicate s (.bool false)), (A2, List.replicate u (.bool true))] none w0 wr := by
  have hw : ∀ x ∈ xs, 0 ≤ x ∧ x < 18446744073709551616 := by rw [hxs]; exact zeros_wide _
  have hl : xs.length ≤ 1048576 := by rw [hxs]; simp; omega
  have hi := back_inv (gb := gb) (N := N) hk hA hw hl hN hm h
  have la := lt_of_at hA.ha
  have lb := lt_of_at hA.hb
  have hrow : ∀ {v : Value} {n b0 : Nat} {vs : List Value}, wr.ownsRow b0 4 1 v n vs → w.heap.size + 1 + 1 ≤ b0 → ∀ k, v.ownBlock = some k → ¬ Mut (S8 a b gb) ⟨[], fun q => q = w.heap.size + 1 ∨ hv.ownBlock = some q, fun _ => False, [w.heap.size + 1]⟩ k := by
    intro v n b0 vs hr hb0 k hk hmut
    obtain ⟨g1, cur, g2⟩ := rowb_block hr hk
    rcases hmut with e | e | e | e | e
    · have e' : k = a := e
      omega
    · have e' : k = b := e
      omega
    · simp at e
    · rcases e with e | e
      · omega
      · obtain ⟨_, cur2, g3⟩ := rowb_block h.hr e
        exact kind_ne g2 g3 (by decide) rfl
    · exact e
  have bd : ∀ {A : Option Addr} {n c b0 : Nat} {vs : List Value}, wr.ownsRow b0 4 1 (.slice A n c) n vs → n ≤ c ∧ c ≤ maxLen := by
    intro A n c b0 vs hr
    rcases hr.2 with ⟨h1, h2⟩ | ⟨g, cap, cur, h1, h2, h3, h4, h5, _⟩
    · simp at h1; omega
    · simp at h1; omega
  obtain ⟨A, c, rfl, h1, hli1⟩ := owns_lies (S := S8 a b gb) h.pr (hrow h.pr (Nat.le_refl _))
  obtain ⟨A2, c2, rfl, h2, hli2⟩ := owns_lies (S := S8 a b gb) h.tr (hrow h.tr (by omega))
  have hbel : Below B w0 wr := h0.trans (Below.mono (Below.trans hm (Below.mono h.bel (by omega))) (by omega))
  refine ⟨A, c, A2, c2, rfl, rfl, (bd h.pr).1, (bd h.pr).2, (bd h.tr).1, (bd h.tr).2, ⟨[], _, [], _, Ready.start hi, by rw [hxs]; exact fitb hk, rfl, rfl, ⟨by have := h.sz; omega, fun k hk hmut => ?_⟩, fun z hz => ?_, fun k => by simp⟩, hbel, fun k hk => by simp at hk⟩
  · rcases hmut with e | e | e | e | e
    · have e' : k = a := e
      omega
    · have e' : k = b := e
      omega
    · simp at e
    · rcases e with e | e
      · omega
      · have := (rowb_block h.hr e).1
        omega
    · exact e
  · simp at hz
    rcases hz with rfl | rfl | rfl
    · refine Lies.row hstk (fun hmut => ?_) (fun i v hv => by rw [Nat.zero_add]; simpa using hv)
      rcases hmut with e | e | e | e | e
      · have e' : w.heap.size = a := e
        omega
      · have e' : w.heap.size = b := e
        omega
      · simp at e
      · rcases e with e | e
        · omega
        · have := (rowb_block h.hr e).1
          omega
      · exact e
    · exact hli1
    · exact hli2
/-- The states behind each of some lists of acts. -/
def zs (k : Nat) (Ls : List (List Bool)) (r : Nat) : List Int × W8 := (Ls.take r).foldl (fun z l => l.foldl act8 z) ([], xb k)
theorem zs_succ {k : Nat} {Ls : List (List Bool)} {r : Nat} {l : List Bool} (h : Ls[r]? = some l) : zs k Ls (r + 1) = l.foldl act8 (zs k Ls r) := by
  obtain ⟨h1, h2⟩ := List.getElem?_eq_some_iff.1 h
  unfold zs
  rw [List.take_succ_eq_append_getElem h1, List.foldl_append, h2]
  rfl
/-- What StackBack's three lists of acts come to. -/
theorem zs_back {k mm : Nat} (h : mm ≤ k) : let Ls := [List.replicate k false, List.replicate mm true, List.replicate mm false]
    (zs k Ls 1).1 = nums k ∧ (zs k Ls 2).1 = (nums k).drop mm ∧ (zs k Ls 3).1 = nums k ∧ (zs k Ls 3).2.wrong = false := by
  intro Ls
  obtain ⟨x1, x2, x3, h1, h2, h3, h4, _⟩ := back_fold ((nums k).take mm) ((nums k).drop mm) (xb k) (fun i hi => (nums_rng (List.mem_of_mem_take hi)).1) (by rw [List.take_append_drop]; rfl) rfl rfl
  rw [List.take_append_drop, nums_len] at h1
  rw [List.take_append_drop] at h2 h3
  rw [List.length_take, nums_len, Nat.min_eq_left h] at h2 h3
  have e1 : zs k Ls 1 = (nums k, x1) := by rw [zs_succ (show Ls[0]? = some (List.replicate k false) from rfl)]; exact h1
  have e2 : zs k Ls 2 = ((nums k).drop mm, x2) := by rw [zs_succ (show Ls[1]? = some (List.replicate mm true) from rfl), e1]; exact h2
  have e3 : zs k Ls 3 = (nums k, x3) := by rw [zs_succ (show Ls[2]? = some (List.replicate mm false) from rfl), e2]; exact h3
  rw [e1, e2, e3]
  exact ⟨rfl, rfl, rfl, h4⟩
/-- StackBack's lists of acts. -/
def Lb (k mm : Nat) : List (List Bool) := [List.replicate k false, List.replicate mm true, List.replicate mm false]
theorem Lb_len {k mm r : Nat} {l : List Bool} (hk : k < 30) (hm : mm ≤ k) (h : (Lb k mm)[r]? = some l) : l.length < 30 := by
  match r, h with
  | 0, h => obtain rfl := Option.some.inj h; simp; omega
  | 1, h => obtain rfl := Option.some.inj h; simp; omega
  | 2, h => obtain rfl := Option.some.inj h; simp; omega
/-- A slice of things, among those that never turn. -/
def Si (Z : List (Option Addr × List Value)) (v : Value) (s : List Int) : Prop := ∃ A c, v = .slice A s.length c ∧ s.length ≤ c ∧ c ≤ maxLen ∧ (A, s.map (Value.int .i64)) ∈ Z
/-- What holds at the third loop's head. -/
structure L3 (a b B g g3 k mm : Nat) (V : List Value) (w0 wr : World) (r : Nat) (lv : Value) : Prop where
  ex : ∃ Z vs, R8 a b (fun _ => 0) B (g + 1) (90 * (3 - r)) (180 * (3 - r)) (30 * (3 - r)) (zs k (Lb k mm) r).2 (zs k (Lb k mm) r).1 Z lv.ownBlock w0 wr ∧ wr.ownsRow B 32 1 lv r vs ∧
    (∀ (i : Nat) (v : Value) (l : List Bool), V[i]? = some v → (Lb k mm)[i]? = some l → Sl Z v l) ∧ (some ⟨g3, 0, none⟩, V) ∈ Z ∧ (some ⟨g, 0, none⟩, [.pointer (some ⟨a, 0, none⟩), .int .i64 0, .func (.func 76) #[] #[]]) ∈ Z ∧
    (∀ (i : Nat) (v : Value), vs[i]? = some v → Si Z v (zs k (Lb k mm) (i + 1)).1)
theorem Sl.mono {Z : List (Option Addr × List Value)} {v : Value} {l : List Bool} {z : Option Addr × List Value} (h : Sl Z v l) : Sl (z :: Z) v l := by
  obtain ⟨A, N, c, h1, h2, h3, h4, h5⟩ := h
  exact ⟨A, N, c, h1, h2, h3, h4, List.mem_cons_of_mem _ h5⟩
theorem Si.mono {Z : List (Option Addr × List Value)} {v : Value} {s : List Int} {z : Option Addr × List Value} (h : Si Z v s) : Si (z :: Z) v s := by
  obtain ⟨A, c, h1, h2, h3, h5⟩ := h
  exact ⟨A, c, h1, h2, h3, List.mem_cons_of_mem _ h5⟩
theorem at0 {w : World} {g i : Nat} {v : Value} {vs : List Value} (h : ∃ d : Addr, (some ⟨g, 0, none⟩ : Option Addr) = some d ∧ w.cell? (d.add i) = some v) : w.cell? ⟨g, i, none⟩ = some v := by
  obtain ⟨d, hd, hc⟩ := h
  obtain rfl := Option.some.inj hd
  have e : (⟨g, 0, none⟩ : Addr).add i = ⟨g, i, none⟩ := by unfold Addr.add; split <;> simp_all
  rw [e] at hc
  exact hc
theorem L3.stk {a b B g g3 k mm : Nat} {V : List Value} {w0 wr : World} {r : Nat} {lv : Value} (h : L3 a b B g g3 k mm V w0 wr r lv) : wr.cell? ⟨g, 0, none⟩ = some (.pointer (some ⟨a, 0, none⟩)) ∧ wr.cell? ⟨g, 1, none⟩ = some (.int .i64 0) ∧ wr.cell? ⟨g, 2, none⟩ = some (.func (.func 76) #[] #[]) := by
  obtain ⟨Z, vs, hR, hrow, hSl, hV, hS, hSi⟩ := h.ex
  exact ⟨at0 (vs := []) (hR.lie hS 0 _ rfl), at0 (vs := []) (hR.lie hS 1 _ rfl), at0 (vs := []) (hR.lie hS 2 _ rfl)⟩
/-- A round of the third loop. -/
theorem L3.go {a b B g g3 k mm : Nat} {V : List Value} {w0 wr : World} {r : Nat} {lv : Value} (hk : k < 30) (hm : mm ≤ k) (hV3 : V.length = 3) (hr : r < 3) (h : L3 a b B g g3 k mm V w0 wr r lv) :
    ∃ A N c, N < 30 ∧ N ≤ c ∧ c ≤ 9223372036854775807 ∧ wr.cell? ⟨g3, r, none⟩ = some (.slice A N c) ∧
      Hid (Calls Try.prog 51 #[stk8 a, .slice A N c, .pointer (some ⟨g + 1, 0, none⟩)] wr fun e w1 => ∃ v, e = .returned v ∧ (v = .nilFunc ∨ ∃ f cap, v = .func (.func f) #[] cap) ∧
        Hid (Calls Try.prog 37 #[v] w1 fun e w2 => ∃ tb, e = .returned (.pointer (some ⟨tb, 0, none⟩)) ∧
          Hid (Calls Try.prog 45 #[.pointer (some ⟨tb, 0, none⟩), .int .i64 (6 * (N : Int))] w2 fun e w3 => e = .returned (.bool true) ∧
            (w3.cell? ⟨g, 0, none⟩ = some (.pointer (some ⟨a, 0, none⟩)) ∧ w3.cell? ⟨g, 1, none⟩ = some (.int .i64 0) ∧ w3.cell? ⟨g, 2, none⟩ = some (.func (.func 76) #[] #[])) ∧
            Hid (Calls Try.prog 54 #[stk8 a] w3 fun e w4 => ∃ A2 n2 c2, e = .returned (.slice A2 n2 c2) ∧ B ≤ w4.heap.size ∧ ∃ vs, Hid (w4.ownsRow B 32 1 lv r vs) ∧
              Hid (∀ (o : Obj) (w5 : World) (lv' : Value), w5.ownsRow B 32 1 lv' (r + 1) (vs ++ [.slice A2 n2 c2]) → (w4.alloc o).grownBy w5 lv.ownBlock → (lv.ownBlock = lv'.ownBlock ∨ ∀ k, lv'.ownBlock = some k → w4.heap.size ≤ k) → L3 a b B g g3 k mm V w0 w5 (r + 1) lv'))))) := by
  obtain ⟨Z, vs, hR, hrow, hSl, hV, hS, hSi⟩ := h.ex
  obtain ⟨v, hv⟩ : ∃ v, V[r]? = some v := ⟨_, List.getElem?_eq_getElem (by omega)⟩
  obtain ⟨l, hl⟩ : ∃ l, (Lb k mm)[r]? = some l := ⟨_, List.getElem?_eq_getElem (by show r < 3; exact hr)⟩
  obtain ⟨A, N, c, rfl, hN, hNc, hc, hz⟩ := hSl r v l hv hl
  have hl30 := Lb_len hk hm hl
  refine ⟨A, N, c, by omega, hNc, hc, at0 (vs := []) (hR.lie hV r _ hv), ?_⟩
  show Calls _ _ _ _ _
  refine (hR.round (m := 90 * (3 - (r + 1))) (n := 180 * (3 - (r + 1))) (f := 30 * (3 - (r + 1))) hz hN hNc hc (by omega) (by omega) (by omega)).mono ?_
  rintro e w1 ⟨v, rfl, hf, HNW⟩
  refine ⟨v, rfl, hf, ?_⟩
  show Calls _ _ _ _ _
  refine HNW.out.mono ?_
  rintro e w2 ⟨tb, rfl, HFI⟩
  refine ⟨tb, rfl, ?_⟩
  show Calls _ _ _ _ _
  have hfin := HFI.out (6 * N) (by omega)
  rw [show ((6 * N : Nat) : Int) = 6 * (N : Int) by omega] at hfin
  refine hfin.mono ?_
  rintro e w3 ⟨rfl, HR3, hsame, hsz⟩
  have hzs := zs_succ (k := k) hl
  have hR3 := HR3.out
  have e0 : zs k (Lb k mm) r = ((zs k (Lb k mm) r).1, (zs k (Lb k mm) r).2) := rfl
  rw [← e0, ← hzs] at hR3
  refine ⟨rfl, ⟨at0 (vs := []) (hR3.lie hS 0 _ rfl), at0 (vs := []) (hR3.lie hS 1 _ rfl), at0 (vs := []) (hR3.lie hS 2 _ rfl)⟩, ?_⟩
  show Calls _ _ _ _ _
  refine hR3.list.mono ?_
  rintro e w4 ⟨A2, c2, rfl, hc1, hc2, HR4, hm4⟩
  have hrow4 : w4.ownsRow B 32 1 lv r vs := rowb_later hrow fun q hq => (hm4.block q (hR3.own_lt hq)).trans (hsame q hq)
  refine ⟨A2, _, c2, rfl, HR4.out.bel_le, vs, hrow4, ?_⟩
  show ∀ (o : Obj) (w5 : World) (lv' : Value), _
  intro o w5 lv' hown hgrow hat
  have hlen : vs.length = r := by have := hrow.1; omega
  refine ⟨⟨_, _, HR4.out.grow hgrow hown hat, hown, fun i v l h1 h2 => (hSl i v l h1 h2).mono, List.mem_cons_of_mem _ hV, List.mem_cons_of_mem _ hS, fun i v hv => ?_⟩⟩
  by_cases hi : i < r
  · rw [List.getElem?_append_left (by omega)] at hv
    exact (hSi i v hv).mono
  · have hi2 := (List.getElem?_eq_some_iff.1 hv).1
    simp at hi2
    obtain rfl : i = r := by omega
    rw [List.getElem?_append_right (by omega), hlen] at hv
    simp at hv
    subst hv
    exact ⟨A2, c2, rfl, hc1, hc2, List.mem_cons_self⟩
/-- The end of the third loop. -/
theorem L3.ends {a b B g g3 k mm : Nat} {V : List Value} {w0 wr : World} {A3 : Option Addr} {c3 : Nat} (hk : k < 30) (hm : mm ≤ k) (h : L3 a b B g g3 k mm V w0 wr 3 (.slice A3 3 c3)) :
    ∃ g5 A0 c0 A1 c1 A2 c2, A3 = some ⟨g5, 0, none⟩ ∧ wr.cell? ⟨g5, 0, none⟩ = some (.slice A0 k c0) ∧ wr.cell? ⟨g5, 1, none⟩ = some (.slice A1 (k - mm) c1) ∧ wr.cell? ⟨g5, 2, none⟩ = some (.slice A2 k c2) ∧ wr.cell? ⟨g + 1, 4, none⟩ = some (.bool false) ∧ k ≤ c0 ∧ c0 ≤ maxLen ∧
      (∀ (q : Nat) (A' : Option Addr) (c' : Nat), (k - mm = 0 ∨ A' = A0.map (·.add mm)) → Calls Try.prog 33 #[.slice A1 (k - mm) c1, .slice A' (k - mm) c'] (wr.drewN q) fun e w' => e = .returned (.bool true) ∧ ∃ q', w' = (wr.drewN q).drewN q') ∧
      (∀ q : Nat, Calls Try.prog 33 #[.slice A2 k c2, .slice A0 k c0] (wr.drewN q) fun e w' => e = .returned (.bool true) ∧ ∃ q', w' = (wr.drewN q).drewN q') ∧ Below B w0 wr := by
  obtain ⟨Z, vs, hR, hrow, hSl, hV, hS, hSi⟩ := h.ex
  obtain ⟨z1, z2, z3, z4⟩ := zs_back hm
  have hlen : vs.length = 3 := by have := hrow.1; omega
  obtain ⟨g5, cap, hv, _, _⟩ := hrow.form (by omega)
  obtain ⟨rfl, -, rfl⟩ : A3 = some ⟨g5, 0, none⟩ ∧ 3 = 3 ∧ c3 = cap := by simpa using hv
  have cell : ∀ i, i < 3 → wr.cell? ⟨g5, i, none⟩ = vs[i]? := fun i hi => hrow.cellAt i (by omega)
  obtain ⟨v0, hv0⟩ : ∃ v, vs[0]? = some v := ⟨_, List.getElem?_eq_getElem (by omega)⟩
  obtain ⟨v1, hv1⟩ : ∃ v, vs[1]? = some v := ⟨_, List.getElem?_eq_getElem (by omega)⟩
  obtain ⟨v2, hv2⟩ : ∃ v, vs[2]? = some v := ⟨_, List.getElem?_eq_getElem (by omega)⟩
  obtain ⟨A0, c0, rfl, a1, a2, a3⟩ := hSi 0 v0 hv0
  obtain ⟨A1, c1, rfl, b1, b2, b3⟩ := hSi 1 v1 hv1
  obtain ⟨A2, c2, rfl, d1, d2, d3⟩ := hSi 2 v2 hv2
  have e1 : (zs k (Lb k mm) (0 + 1)).1 = nums k := z1
  have e2 : (zs k (Lb k mm) (1 + 1)).1 = (nums k).drop mm := z2
  have e3 : (zs k (Lb k mm) (2 + 1)).1 = nums k := z3
  rw [e1] at a1 a3 hv0
  rw [e2] at b1 b3 hv1
  rw [e3] at d1 d3 hv2
  rw [nums_len] at a1 hv0 d1 hv2
  rw [List.length_drop, nums_len] at b1 hv1
  have hwr := hR.wrong
  rw [show (zs k (Lb k mm) 3).2.wrong = false from z4] at hwr
  have rd : ∀ {A : Option Addr} {s : List Int}, (A, s.map (Value.int .i64)) ∈ Z → ∀ (q i : Nat) (h : i < s.length), ∃ d : Addr, A = some d ∧ (wr.drewN q).cell? (d.add i) = some (.int .i64 s[i]) := fun hz q i hi => hR.lie hz i _ (by simp [hi])
  refine ⟨g5, A0, c0, A1, c1, A2, c2, rfl, (cell 0 (by omega)).trans hv0, (cell 1 (by omega)).trans hv1, (cell 2 (by omega)).trans hv2, hwr, a1, a2, fun q A' c' hA' => ?_, fun q => ?_, hR.bel⟩
  · refine Same_q ((nums k).drop mm) A1 A' (k - mm) c1 c' (by rw [List.length_drop, nums_len]) _ (rd b3 q) (fun i hi => ?_) (by omega)
    rw [List.length_drop, nums_len] at hi
    obtain ⟨d, rfl, hd⟩ := rd a3 q (mm + i) (by rw [nums_len]; omega)
    rcases hA' with hA' | hA'
    · omega
    · refine ⟨d.add mm, hA', ?_⟩
      rw [Addr.add_add, hd]
      simp
  · exact Same_q (nums k) A2 A0 k c2 c0 (by rw [nums_len]) _ (rd d3 q) (rd a3 q) (by omega)
/-- The third loop's beginning. -/
theorem L3.begin {a b B k mm : Nat} {w0 w W wr : World} {A A2 : Option Addr} {c c2 : Nat} {hv : Value} (hk : k < 30) (hmk : mm ≤ k) (hA : Arena w a b 0 (List.replicate (1 + k) 0)) (hm : Made w W) (h : L2 w.heap.size W wr k k mm (.slice A k c) (.slice A2 mm c2) hv) (h0 : Below B w0 w) (hB : B ≤ a ∧ B ≤ b ∧ B ≤ w.heap.size)
    (hstk : W.heap[w.heap.size]? = some (.cells #[.pointer (some ⟨a, 0, none⟩), .int .i64 0, .func (.func 76) #[] #[]] 81 (0, 0))) :
    ∃ V, V.length = 3 ∧ L3 a b B w.heap.size (wr.heap.size + 1 + 1) k mm V w0
      (((wr.alloc (.cells (Array.replicate mm (Value.bool false)) 4)).alloc (.cells #[] 32)).alloc (.cells #[.slice A k c, .slice A2 mm c2, .slice (some ⟨wr.heap.size, 0, none⟩) mm mm] 84)) 0 (.slice (some ⟨wr.heap.size + 1, 0, none⟩) 0 0) := by
  have hsz := h.sz
  have hst : wr.heap[w.heap.size]? = some (.cells #[.pointer (some ⟨a, 0, none⟩), .int .i64 0, .func (.func 76) #[] #[]] 81 (0, 0)) := (h.bel.block _ (by omega)).trans hstk
  obtain ⟨A', c', A2', c2', e1, e2, b1, b2, b3, b4, hR⟩ := back_begin (gb := fun _ => 0) (M := 300) (N := 600) hk rfl hA (by omega) hm h h0 hB hst
  obtain ⟨rfl, -, rfl⟩ : A = A' ∧ k = k ∧ c = c' := by simpa using e1
  obtain ⟨rfl, -, rfl⟩ : A2 = A2' ∧ mm = mm ∧ c2 = c2' := by simpa using e2
  have hB0 : B ≤ wr.heap.size := hR.bel_le
  have m1 : Made wr (wr.alloc (.cells (Array.replicate mm (Value.bool false)) 4)) := (Made.refl _).alloc (Nat.le_refl _) _
  have hw1 := World.ownsRow_lit (e := 4) (base := wr.heap.size) (size := 1) wr (Array.replicate mm (Value.bool false)) mm (Nat.le_refl _) (by unfold maxLen; omega) (by simp)
  obtain ⟨A3, c3, e3, h31, h32, h33, hR1⟩ := hR.note m1 hw1
  obtain ⟨rfl, -, rfl⟩ : some ⟨wr.heap.size, 0, none⟩ = A3 ∧ mm = mm ∧ mm = c3 := by simpa using e3
  have m2 : Made (wr.alloc (.cells (Array.replicate mm (Value.bool false)) 4)) ((wr.alloc (.cells (Array.replicate mm (Value.bool false)) 4)).alloc (.cells #[] 32)) := (Made.refl _).alloc (Nat.le_refl _) _
  have hw2 := World.ownsRow_made (e := 32) (base := B) (size := 1) (wr.alloc (.cells (Array.replicate mm (Value.bool false)) 4)) #[] 0 (by simp only [World.size_alloc]; omega) (by unfold maxLen; omega) (by simp)
  simp only [World.size_alloc] at hw2
  have hR2 := hR1.pick (v := .slice (some ⟨wr.heap.size + 1, 0, none⟩) 0 0) m2 (fun q hq => by
    obtain rfl : wr.heap.size + 1 = q := by simpa [Value.ownBlock] using hq
    simp only [World.size_alloc]
    omega)
  have m3 : Made ((wr.alloc (.cells (Array.replicate mm (Value.bool false)) 4)).alloc (.cells #[] 32)) (((wr.alloc (.cells (Array.replicate mm (Value.bool false)) 4)).alloc (.cells #[] 32)).alloc (.cells #[.slice A k c, .slice A2 mm c2, .slice (some ⟨wr.heap.size, 0, none⟩) mm mm] 84)) := (Made.refl _).alloc (Nat.le_refl _) _
  have hw3 := World.ownsRow_lit (e := 84) (base := wr.heap.size + 1 + 1) (size := 1) ((wr.alloc (.cells (Array.replicate mm (Value.bool false)) 4)).alloc (.cells #[] 32)) #[.slice A k c, .slice A2 mm c2, .slice (some ⟨wr.heap.size, 0, none⟩) mm mm] 3 (by simp only [World.size_alloc]; omega) (by unfold maxLen; omega) (by simp)
  simp only [World.size_alloc] at hw3
  obtain ⟨A4, c4, e4, h41, h42, h43, hR3⟩ := hR2.note m3 (by simp only [World.size_alloc]; exact hw3)
  obtain ⟨rfl, -, rfl⟩ : some ⟨wr.heap.size + 1 + 1, 0, none⟩ = A4 ∧ 3 = 3 ∧ 3 = c4 := by simpa using e4
  unfold maxLen at b2 b4
  refine ⟨[.slice A k c, .slice A2 mm c2, .slice (some ⟨wr.heap.size, 0, none⟩) mm mm], rfl, ⟨_, [], hR3.lower (by omega) (by omega) (by omega), hw2.alloc _, fun i v l h1 h2 => ?_, by simp, by simp, fun i v hv => by simp at hv⟩⟩
  match i, h1, h2 with
  | 0, h1, h2 =>
    obtain rfl := Option.some.inj h1
    obtain rfl := Option.some.inj h2
    exact ⟨A, k, c, rfl, by simp, b1, by omega, by simp⟩
  | 1, h1, h2 =>
    obtain rfl := Option.some.inj h1
    obtain rfl := Option.some.inj h2
    exact ⟨A2, mm, c2, rfl, by simp, b3, by omega, by simp⟩
  | 2, h1, h2 =>
    obtain rfl := Option.some.inj h1
    obtain rfl := Option.some.inj h2
    exact ⟨_, mm, mm, rfl, by simp, Nat.le_refl _, by omega, by simp⟩
end Go.Proofs.Ythllplocbciepaa.Kod.Eight
