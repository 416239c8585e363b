/- Small laws that the walks share: an append of one struct, rows of tokens, what stays behind a call. -/
import Derived.Test.YtcaaadhhaanbcaaDoorWb
import Derived.Test.YtcaaadhhaanbcaaDoorBld
namespace Go.Proofs.YtcaaadhhaanbcaaDoor
open Go.RowKit

theorem tokInfo : (Tryd.prog.info? 40).map (fun i => (i.zero, i.size, i.bytes)) = some (some (.agg #[.int .i64 0, .string ⟨#[]⟩, .int .i64 0, .int .i64 0]), 4, 40) := by kernel_rfl

theorem cells_new (w : World) (ys : List Value) (e : TypeId) (j : Nat) (u : Value) (h : ys[j]? = some u) : (w.alloc (.cells ys.toArray e)).cell? ((⟨w.heap.size, 0, none⟩ : Addr).add j) = some u := by
  have hn : (w.alloc (.cells ys.toArray e)).heap[w.heap.size]? = some (.cells ys.toArray e) := heap_alloc_new w _
  have he : (⟨w.heap.size, 0, none⟩ : Addr).add j = ⟨w.heap.size, j, none⟩ := by unfold Addr.add; split <;> simp_all
  rw [he, Lib.cell_of_heap hn]; simpa using h

theorem append_cells {P : Program} {ops : Array Oper} {rest : List Oper} {o : Oper} {a : Act} {Q : Exit → Act → World → Prop} {w0 W : World} (base : Nat) (hgd : o.guard = none) (s x : Operand) (t e : TypeId) (z : Value) (size bytes : Nat)
    (ho : o.op = .call { callee := .builtin .append, args := #[s, x], argTypes := #[t, t] })
    (ht : P.underlying t = some (.slice e)) (hinfo : (P.info? e).map (fun i => (i.zero, i.size, i.bytes)) = some (some z, size, bytes)) (hz : z.cells.size = size) (hs0 : 0 < size) (hb0 : 0 < bytes)
    (v : Value) (n : Nat) (xs ys : List Value) (hs : a.eval s = v) (hx : a.eval x = .slice (some ⟨W.heap.size, 0, none⟩) 1 1) (hys : ys.length = size) (h1 : ∀ u ∈ ys, u.oneCell' = true)
    (HO : W.ownsRow base e size v n xs) (HB : Below base w0 W) (hbase : base ≤ W.heap.size) (hl : (n + 1) * bytes ≤ 140737488355328)
    (h : ∀ g cap w1, w1.ownsRow base e size (.slice (some ⟨g, 0, none⟩) (n + 1) cap) (n + 1) (xs ++ ys) → Below base w0 w1 → W.grownBy w1 v.ownBlock → base ≤ g → wpList P ops Q rest (a.put o.dst (.slice (some ⟨g, 0, none⟩) (n + 1) cap)) w1) :
    wpList P ops Q (o :: rest) a (W.alloc (.cells ys.toArray e)) := by
  obtain ⟨i0, hi, hzz⟩ := Option.map_eq_some_iff.1 hinfo
  simp only [Prod.mk.injEq] at hzz
  obtain ⟨hz0, hz1, hz2⟩ := hzz
  have hlen : n + 1 ≤ 140737488355328 := Nat.le_trans (Nat.le_mul_of_pos_right _ hb0) hl
  refine wpList_append_own (W.alloc (.cells ys.toArray e)) hgd s x t ho base e i0 z size bytes ht hi hz0 hz1 hz2 hz hs0 v n xs hs (HO.alloc _) ⟨W.heap.size, 0, none⟩ 1 1 ys hx (by rw [hys]; simp)
    (fun j u hj => cells_new W ys e j u hj) h1 (by simp only [maxLen]; omega) hl (by simp; omega) ?_
  intro v1 w1 hown hg _
  obtain ⟨g, cap, rfl, hgb⟩ : ∃ g cap, v1 = .slice (some ⟨g, 0, none⟩) (n + 1) cap ∧ base ≤ g := by
    rcases hown.2 with ⟨_, h0⟩ | ⟨g, cap, cur, hv, hb, _⟩
    · omega
    · exact ⟨g, cap, hv, hb⟩
  refine h g cap w1 hown ((HB.alloc hbase _).grown hg (by simp; omega) (fun k hk => (HO.lt k hk).1)) ⟨hg.os, hg.tape, hg.output, Nat.le_trans (by simp) hg.size, fun k hk hne => (hg.block k (by simp; omega) hne).trans (Below.heap_alloc W _ k hk)⟩ hgb

def tokCells (t : Tok) : List Value := [.int .i64 t.kind, strV t.text, .int .i64 t.n, .int .i64 t.pos]
def toksCells (l : List Tok) : List Value := l.flatMap tokCells
theorem toksCells_len (l : List Tok) : (toksCells l).length = l.length * 4 := by
  induction l with
  | nil => rfl
  | cons t l ih => simp only [toksCells, List.flatMap_cons, List.length_append, List.length_cons] at *; rw [ih]; simp [tokCells]; omega
theorem own_below {w w' : World} {B e size n : Nat} {v : Value} {xs : List Value} (h : w.ownsRow B e size v n xs) (hb : Below w.heap.size w w') : w'.ownsRow B e size v n xs := by
  refine h.kept (row := none) ⟨hb.os, hb.tape, hb.output, hb.size, fun k hk _ => hb.block k hk⟩ ?_
  cases v.ownBlock with
  | none => exact .inl rfl
  | some g => exact .inr (by simp)
theorem below_new {B : Nat} {w w1 w2 : World} (h : Below B w w1) (k : Below w1.heap.size w1 w2) (hB : B ≤ w1.heap.size) : Below B w w2 := h.trans (k.mono hB)
theorem toksCells_snoc (l : List Tok) (t : Tok) : toksCells (l ++ [t]) = toksCells l ++ tokCells t := by simp [toksCells, List.flatMap_append]

theorem own_snoc {w : World} {B g cap : Nat} {acc : List Tok} {t : Tok} {ys : List Value} (hy : ys = tokCells t) (h : w.ownsRow B 40 4 (.slice (some ⟨g, 0, none⟩) (acc.length + 1) cap) (acc.length + 1) (toksCells acc ++ ys)) :
    w.ownsRow B 40 4 (.slice (some ⟨g, 0, none⟩) (acc.length + 1) cap) (acc ++ [t]).length (toksCells (acc ++ [t])) := by
  subst hy; rw [toksCells_snoc, List.length_append]; exact h


end Go.Proofs.YtcaaadhhaanbcaaDoor
