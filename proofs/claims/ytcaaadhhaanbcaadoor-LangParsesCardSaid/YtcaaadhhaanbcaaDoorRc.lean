/- The walk of the reference reader's arguments, given that of expressions. -/
import Derived.Test.YtcaaadhhaanbcaaDoorRb
import Derived.Test.YtcaaadhhaanbcaaDoorBp
import Derived.Test.YtcaaadhhaanbcaaDoorWg
import Derived.Test.YtcaaadhhaanbcaaDoorAv
import Derived.Maps.AppendAt
namespace Go.Proofs.YtcaaadhhaanbcaaDoor
open Go.RowKit

theorem append_cells_at {P : Program} {ops : Array Oper} {rest : List Oper} {o : Oper} {a : Act} {Q : Exit → Act → World → Prop} {w0 W : World} (base : Nat) (hgd : o.guard = none) (s x : Operand) (t e : TypeId) (z : Value) (size bytes : Nat)
    (ho : o.op = .call { callee := .builtin .append, args := #[s, x], argTypes := #[t, t] })
    (ht : P.underlying t = some (.slice e)) (hinfo : (P.info? e).map (fun i => (i.zero, i.size, i.bytes)) = some (some z, size, bytes)) (hz : z.cells.size = size) (hs0 : 0 < size) (hb0 : 0 < bytes)
    (v : Value) (n : Nat) (xs ys : List Value) (hs : a.eval s = v) (hx : a.eval x = .slice (some ⟨W.heap.size, 0, none⟩) 1 1) (hys : ys.length = size) (h1 : ∀ u ∈ ys, u.oneCell' = true)
    (HO : W.ownsRow base e size v n xs) (HB : Below base w0 W) (hbase : base ≤ W.heap.size) (hl : (n + 1) * bytes ≤ 140737488355328)
    (h : ∀ g cap w1, w1.ownsRow base e size (.slice (some ⟨g, 0, none⟩) (n + 1) cap) (n + 1) (xs ++ ys) → Below base w0 w1 → W.grownBy w1 v.ownBlock → (v.ownBlock = some g ∨ g = W.heap.size + 1) → wpList P ops Q rest (a.put o.dst (.slice (some ⟨g, 0, none⟩) (n + 1) cap)) w1) :
    wpList P ops Q (o :: rest) a (W.alloc (.cells ys.toArray e)) := by
  obtain ⟨i0, hi, hzz⟩ := Option.map_eq_some_iff.1 hinfo
  simp only [Prod.mk.injEq] at hzz
  obtain ⟨hz0, hz1, hz2⟩ := hzz
  have hlen : n + 1 ≤ 140737488355328 := Nat.le_trans (Nat.le_mul_of_pos_right _ hb0) hl
  refine wpList_append_own_at (W.alloc (.cells ys.toArray e)) hgd s x t ho base e i0 z size bytes ht hi hz0 hz1 hz2 hz hs0 v n xs hs (HO.alloc _) ⟨W.heap.size, 0, none⟩ 1 1 ys hx (by rw [hys]; simp)
    (fun j u hj => cells_new W ys e j u hj) h1 (by simp only [maxLen]; omega) hl (by simp; omega) ?_
  intro v1 w1 hown hg _ hat
  obtain ⟨g, cap, rfl⟩ : ∃ g cap, v1 = .slice (some ⟨g, 0, none⟩) (n + 1) cap := by
    rcases hown.2 with ⟨_, h0⟩ | ⟨g, cap, cur, hv, hb, _⟩
    · omega
    · exact ⟨g, cap, hv⟩
  refine h g cap w1 hown ((HB.alloc hbase _).grown hg (by simp; omega) (fun k hk => (HO.lt k hk).1)) ⟨hg.os, hg.tape, hg.output, Nat.le_trans (by simp) hg.size, fun k hk hne => (hg.block k (by simp; omega) hne).trans (Below.heap_alloc W _ k hk)⟩ ?_
  rcases hat with hat | hat
  · exact .inl hat.symm
  · refine .inr ?_
    have : g = (W.alloc (.cells ys.toArray e)).heap.size := by simpa [Value.ownBlock] using hat
    simpa using this

theorem PX.errc {m : Option (List Ex)} {d n : Nat} {l : List Tok} {r : PR} (h : PX m d n l r) : ∀ c l2, r = .err c l2 → c ≠ 0 := by
  induction h with
  | bad _ => intro c l2 he; cases he; decide
  | deep _ _ => intro c l2 he; cases he; decide
  | num _ _ _ => intro c l2 he; cases he
  | list _ _ _ _ => intro c l2 he; cases he
  | listErr _ _ _ hl => intro c l2 he; cases he; exact (pList_err hl).1
  | name _ _ _ _ => intro c l2 he; cases he
  | call _ _ _ _ _ _ => intro c l2 he; cases he
  | callErr _ _ _ _ _ ih => intro c l2 he; cases he; exact ih _ _ rfl
  | done _ => intro c l2 he; cases he
  | sep _ _ => intro c l2 he; cases he; decide
  | arg _ _ _ _ _ ih2 => intro c l2 he; exact ih2 c l2 he
  | argErr _ _ _ ih => intro c l2 he; cases he; exact ih _ _ rfl

/-- What an expression of the reader answers. -/
def RExprPost (r : PR) (ts : List Tok) (v : Value) (e : Nat) (w : World) (en : Ending) (w' : World) : Prop :=
  (match r with
  | .ok xs n' rest => ∃ (x : Ex) (cs : Array Value) (i' : Nat), xs = [x] ∧ ts.drop i' = rest ∧ i' ≤ ts.length ∧ en = .returned (.tuple #[.agg cs, .agg (rdA v e i' n' 0 0)]) ∧ XV (fun b => w.heap.size ≤ b) w' x cs
  | .err c rest => ∃ (k z n' : Int) (nm : List UInt8) (i' : Nat), en = .returned (.tuple #[.agg #[.int .i64 k, strV nm, .int .i64 z, .slice none 0 0, .slice none 0 0], .agg (rdA v e i' n' c (posT e rest : Nat))])) ∧ Below w.heap.size w w'
def RArgsPost (r : PR) (ts : List Tok) (v : Value) (e : Nat) (w : World) (en : Ending) (w' : World) : Prop :=
  (match r with
  | .ok xs n' rest => ∃ (lv : Value) (i' : Nat), ts.drop i' = rest ∧ i' ≤ ts.length ∧ en = .returned (.tuple #[lv, .agg (rdA v e i' n' 0 0)]) ∧ RArgs (fun b => w.heap.size ≤ b) w' lv xs
  | .err c rest => ∃ (n' : Int) (i' : Nat), en = .returned (.tuple #[.slice none 0 0, .agg (rdA v e i' n' c (posT e rest : Nat))])) ∧ Below w.heap.size w w'

def Says30 (ts : List Tok) (v : Value) (e B k : Nat) : Prop :=
  ∀ (d n i : Nat) (r : PR) (w : World), (ts.drop i).length ≤ k → d ≤ 33 → n ≤ 1024 → i ≤ ts.length → RD w v ts B → PX none d n (ts.drop i) r →
    Calls Tryd.prog 30 #[.agg (rdA v e i n 0 0), .int .i64 d] w (RExprPost r ts v e w)

/-- The state of the arguments' loop: the reader in its block, the result's block still zero, the arguments so far. -/
structure AS (w0 W : World) (v : Value) (e i n : Nat) (o : Value) (acc : List Ex) (cells : List Value) : Prop where
  hp : W.heap[w0.heap.size]? = some (.cells (rdA v e i n 0 0) 55 (0, 0))
  hq : W.heap[w0.heap.size + 1]? = some zero6
  own : W.ownsRow w0.heap.size 26 5 o acc.length cells
  xs : RXs (fun b => w0.heap.size ≤ b ∧ b ≠ w0.heap.size ∧ b ≠ w0.heap.size + 1 ∧ some b ≠ o.ownBlock) W acc (fun j => cells[j]?)
  below : Below w0.heap.size w0 W

theorem AS.later {w0 W W' : World} {v o : Value} {e i n : Nat} {acc : List Ex} {cells : List Value} (h : AS w0 W v e i n o acc cells) (hb : Below W.heap.size W W') : AS w0 W' v e i n o acc cells :=
  ⟨(hb.block _ (Array.getElem?_eq_some_iff.1 h.hp).1).trans h.hp, (hb.block _ (Array.getElem?_eq_some_iff.1 h.hq).1).trans h.hq, own_below h.own hb,
    RXs_mono (fun b o u hg hu => ⟨hg, by rw [hb.cell (World.block_lt_of_cell? W _ hu)]; exact hu⟩) acc _ _ (fun _ _ hj => hj) h.xs, h.below.trans (hb.mono h.below.size)⟩
theorem AS.next {w0 W : World} {v o : Value} {e i n : Nat} {acc : List Ex} {cells : List Value} (h : AS w0 W v e i n o acc cells) (j m : Nat) : AS w0 ((W.setCell ⟨w0.heap.size, 2, none⟩ (.int .i64 j)).setCell ⟨w0.heap.size, 3, none⟩ (.int .i64 m)) v e j m o acc cells := by
  have hn := own_ne h.own h.hp (by decide)
  refine ⟨by have := h.hp; simp [World.setCell, Array.getElem?_modify, this], ((set_far (by omega)).trans (set_far (by omega))).trans h.hq, own_setw (own_setw h.own hn) hn, ?_, (h.below.setCell (p := ⟨_, 2, none⟩) (Nat.le_refl _) _).setCell (p := ⟨_, 3, none⟩) (Nat.le_refl _) _⟩
  refine RXs_mono (fun b o u hg hu => ⟨hg, ?_⟩) acc _ _ (fun _ _ hj => hj) h.xs
  rw [← hu]; exact World.cell?_of_block ((set_far (by have := hg.2.1; exact this)).trans (set_far (by have := hg.2.1; exact this)))
theorem AS.next1 {w0 W : World} {v o : Value} {e i n : Nat} {acc : List Ex} {cells : List Value} (h : AS w0 W v e i n o acc cells) (j : Nat) : AS w0 (W.setCell ⟨w0.heap.size, 2, none⟩ (.int .i64 j)) v e j n o acc cells := by
  have hn := own_ne h.own h.hp (by decide)
  refine ⟨rd_set h.hp _, (set_far (by omega)).trans h.hq, own_setw h.own hn, ?_, h.below.setCell (p := ⟨_, 2, none⟩) (Nat.le_refl _) _⟩
  refine RXs_mono (fun b o u hg hu => ⟨hg, ?_⟩) acc _ _ (fun _ _ hj => hj) h.xs
  rw [← hu]; exact World.cell?_of_block (set_far (by have := hg.2.1; exact this))
theorem AS.put {w0 W : World} {v o : Value} {e i n : Nat} {acc : List Ex} {cells : List Value} (h : AS w0 W v e i n o acc cells) (j m : Nat) :
    AS w0 (put6w W w0.heap.size v (.int .i64 e) (.int .i64 j) (.int .i64 m) (.int .i64 0) (.int .i64 0)) v e j m o acc cells := by
  have hn := own_ne h.own h.hp (by decide)
  refine ⟨put6 h.hp _ _ _ _ _ _, ?_, own_put6 h.own hn, ?_, put6_below h.below (Nat.le_refl _) _ _ _ _ _ _⟩
  · rw [← h.hq]; simp only [put6w]; rw [set_far (by omega), set_far (by omega), set_far (by omega), set_far (by omega), set_far (by omega), set_far (by omega)]
  · refine RXs_mono (fun b o u hg hu => ⟨hg, ?_⟩) acc _ _ (fun _ _ hj => hj) h.xs
    rw [← hu]
    have hb : b ≠ w0.heap.size := hg.2.1
    refine World.cell?_of_block ?_
    show (put6w W w0.heap.size _ _ _ _ _ _).heap[b]? = _
    simp only [put6w]; rw [set_far hb, set_far hb, set_far hb, set_far hb, set_far hb, set_far hb]

/-- One argument more. -/
theorem AS.snoc {w0 W W2 : World} {v o : Value} {e i n g cap : Nat} {acc : List Ex} {cells cs : List Value} {x : Ex} {S : Nat} (h : AS w0 W v e i n o acc cells) (hx : XV (fun b => S ≤ b) W x cs.toArray) (hS : ∀ g', o.ownBlock = some g' → g' < S) (hS2 : w0.heap.size + 2 ≤ S)
    (hown : W2.ownsRow w0.heap.size 26 5 (.slice (some ⟨g, 0, none⟩) (acc.length + 1) cap) (acc.length + 1) (cells ++ cs)) (hb : Below w0.heap.size w0 W2) (hgrow : W.grownBy W2 o.ownBlock) (hat : o.ownBlock = some g ∨ g = W.heap.size + 1) :
    AS w0 W2 v e i n (.slice (some ⟨g, 0, none⟩) (acc.length + 1) cap) (acc ++ [x]) (cells ++ cs) := by
  have hn1 := own_ne h.own h.hp (by decide)
  have hn2 := own_ne h.own h.hq (by decide)
  have hlt1 : w0.heap.size < W.heap.size := (Array.getElem?_eq_some_iff.1 h.hp).1
  have hlt2 : w0.heap.size + 1 < W.heap.size := (Array.getElem?_eq_some_iff.1 h.hq).1
  have old : ∀ b, b < W.heap.size → some b ≠ o.ownBlock → W2.heap[b]? = W.heap[b]? := fun b hb hne => hgrow.block b hb hne
  have cell : ∀ b o' u, some b ≠ o.ownBlock → W.cell? ⟨b, o', none⟩ = some u → W2.cell? ⟨b, o', none⟩ = some u := fun b o' u hb hu => by
    rw [← hu]; exact World.cell?_of_block (old b (World.block_lt_of_cell? W _ hu) hb)
  refine ⟨(old _ hlt1 (fun e => hn1 e.symm)).trans h.hp, (old _ hlt2 (fun e => hn2 e.symm)).trans h.hq, by rw [List.length_append]; exact hown, ?_, hb⟩
  refine (RXs_append acc [x] _).2 ⟨?_, RXs_cons.2 ⟨?_, RXs_nil⟩⟩
  · refine RXs_mono (fun b o' u hg hu => ?_) acc _ _ (fun j u hj => ?_) h.xs
    · obtain ⟨h0, h1, h2, h3⟩ := hg
      have hlt : b < W.heap.size := World.block_lt_of_cell? W _ hu
      refine ⟨⟨h0, h1, h2, ?_⟩, cell b o' u h3 hu⟩
      intro e
      simp only [Value.ownBlock, Option.some.injEq] at e
      rcases hat with h | h
      · rw [h] at h3; exact h3 (by rw [e])
      · omega
    · rw [List.getElem?_append_left (List.getElem?_eq_some_iff.1 hj).1]; exact hj
  · refine RX_mono (fun b o' u hg hu => ?_) x _ _ (fun j u hj => ?_) hx.rx
    · have hg' : S ≤ b := hg
      have hlt : b < W.heap.size := World.block_lt_of_cell? W _ hu
      have hbv : some b ≠ o.ownBlock := fun e => by have := hS b e.symm; omega
      refine ⟨⟨by omega, by omega, by omega, ?_⟩, cell b o' u hbv hu⟩
      intro e
      simp only [Value.ownBlock, Option.some.injEq] at e
      rcases hat with h | h
      · exact hbv (by rw [h, e])
      · omega
    · have hl := h.own.1
      rw [List.getElem?_append_right (by omega), show j + 5 * acc.length - cells.length = j from by omega]
      simpa using hj
theorem own_formX {w : World} {B n : Nat} {v : Value} {xs : List Value} (h : w.ownsRow B 26 5 v n xs) : ∃ a c, v = .slice a n c := by
  rcases h.2 with ⟨hv, h0⟩ | ⟨g, cap, cur, hv, _⟩
  · exact ⟨none, 0, by rw [hv, h0]⟩
  · exact ⟨_, _, hv⟩
end Go.Proofs.YtcaaadhhaanbcaaDoor
