/- The walks of the reference reader's small steps. -/
import Derived.Test.YtcaaadhhaanbcaaDoorLt
namespace Go.Proofs.YtcaaadhhaanbcaaDoor
open Go.RowKit

/-- The tokens that a reader reads: a row that stands in w. -/
structure RD (w : World) (v : Value) (ts : List Tok) (B : Nat) : Prop where
  own : w.ownsRow B 40 4 v ts.length (toksCells ts)
  small : ts.length ≤ 65536

theorem RD.later {w w' : World} {v : Value} {ts : List Tok} {B : Nat} (h : RD w v ts B) (hb : Below w.heap.size w w') : RD w' v ts B := ⟨own_below h.own hb, h.small⟩
theorem RD.form {w : World} {v : Value} {ts : List Tok} {B : Nat} (h : RD w v ts B) : ∃ a cap, v = .slice a ts.length cap ∧ ts.length ≤ cap ∧ cap ≤ 9223372036854775807 := row_form h.own

abbrev rdA (v : Value) (e i n c p : Int) : Array Value := #[v, .int .i64 e, .int .i64 i, .int .i64 n, .int .i64 c, .int .i64 p]

theorem drop_nil_len {α : Type} {l : List α} {i : Nat} (h : l.drop i = []) : ¬ i < l.length := by
  intro hlt; rw [List.drop_eq_getElem_cons hlt] at h; cases h
theorem drop_cons_at {α : Type} {l r : List α} {i : Nat} {t : α} (h : l.drop i = t :: r) : ∃ hlt : i < l.length, l[i] = t := by
  rcases Nat.lt_or_ge i l.length with h' | h'
  · refine ⟨h', ?_⟩
    rw [List.drop_eq_getElem_cons h'] at h; exact (List.cons.inj h).1
  · rw [List.drop_eq_nil_of_le h'] at h; cases h

theorem RD.here {w : World} {ts r : List Tok} {B len cap i : Nat} {a : Option Addr} {t : Tok} (h : RD w (.slice a len cap) ts B) (ht : ts.drop i = t :: r) :
    ∃ g, a = some ⟨g, 0, none⟩ ∧ g < w.heap.size ∧ i < ts.length ∧ w.cell? ⟨g, i * 4, none⟩ = some (.int .i64 t.kind) ∧ w.cell? ⟨g, i * 4 + 1, none⟩ = some (strV t.text) ∧
      w.cell? ⟨g, i * 4 + 2, none⟩ = some (.int .i64 t.n) ∧ w.cell? ⟨g, i * 4 + 3, none⟩ = some (.int .i64 t.pos) := by
  obtain ⟨hlt, rfl⟩ := drop_cons_at ht
  obtain ⟨g, rfl, c0, c1, c2, c3⟩ := row_here h.own i hlt
  exact ⟨g, rfl, World.block_lt_of_cell? w (⟨g, i * 4, none⟩ : Addr) c0, hlt, c0, c1, c2, c3⟩

set_option maxHeartbeats 1000000 in
theorem f57_any {w : World} {v : Value} {ts : List Tok} {B i : Nat} (e n c p : Int) (h : RD w v ts B) :
    Calls Tryd.prog 57 #[.agg (rdA v e i n c p)] w fun en w' => en = .returned (.int .i64 (kindT (ts.drop i))) ∧ Below w.heap.size w w' := by
  have hs := h.small
  have HB : Hid (∀ o, Below w.heap.size w (w.alloc o)) := Lib.hid (fun o => (Below.refl _ _).alloc (Nat.le_refl _) o)
  obtain ⟨a, cap, rfl, hc1, hc2⟩ := h.form
  cases hd : ts.drop i with
  | nil =>
    have hge := drop_nil_len hd
    clear hd h
    go_enter Tryd.func57, Tryd.ntmps57
    go_wp2_with fail
    go_ret
    exact ⟨rfl, HB.out _⟩
  | cons t r =>
    obtain ⟨g, rfl, hg, hlt, c0, c1, c2, c3⟩ := h.here hd
    clear hd h
    go_enter Tryd.func57, Tryd.ntmps57
    go_wp2_with fail
    go_ret
    exact ⟨rfl, HB.out _⟩

set_option maxHeartbeats 1000000 in
theorem f58_any {w : World} {v : Value} {ts : List Tok} {B i : Nat} (b : UInt8) (e n c p : Int) (h : RD w v ts B) :
    Calls Tryd.prog 58 #[.agg (rdA v e i n c p), .string ⟨#[b]⟩] w fun en w' => en = .returned (.bool (isT b (ts.drop i))) ∧ Below w.heap.size w w' := by
  have hs := h.small
  have HB : Hid (∀ o, Below w.heap.size w (w.alloc o)) := Lib.hid (fun o => (Below.refl _ _).alloc (Nat.le_refl _) o)
  obtain ⟨a, cap, rfl, hc1, hc2⟩ := h.form
  cases hd : ts.drop i with
  | nil =>
    have hge := drop_nil_len hd
    clear hd h
    go_enter Tryd.func58, Tryd.ntmps58
    go_wp2_with fail
    go_ret
    exact ⟨rfl, HB.out _⟩
  | cons t r =>
    obtain ⟨g, rfl, hg, hlt, c0, c1, c2, c3⟩ := h.here hd
    have HS := Lib.hid (show isT b (t :: r) = (t.kind == 3 && t.text == [b]) from rfl)
    clear hd h
    cases hk : (t.kind == 3)
    · go_enter Tryd.func58, Tryd.ntmps58
      go_wp2_with fail
      go_ret
      exact ⟨by rw [HS.out, hk]; rfl, HB.out _⟩
    · go_enter Tryd.func58, Tryd.ntmps58
      go_wp2_with fail
      go_ret
      exact ⟨by rw [HS.out, hk]; rfl, HB.out _⟩

set_option maxHeartbeats 1000000 in
theorem f31_any {w : World} {v : Value} {ts : List Tok} {B i e : Nat} (n c : Int) (h : RD w v ts B) :
    Calls Tryd.prog 31 #[.agg (rdA v e i n 0 0), .int .i64 c] w fun en w' => en = .returned (.agg (rdA v e i n c (posT e (ts.drop i) : Nat))) ∧ Below w.heap.size w w' := by
  have hs := h.small
  obtain ⟨a, cap, rfl, hc1, hc2⟩ := h.form
  cases hd : ts.drop i with
  | nil =>
    have hge := drop_nil_len hd
    clear hd h
    go_enter Tryd.func31, Tryd.ntmps31
    go_wp2_with fail
    refine bodyPost_ret (v := .agg (rdA (.slice a ts.length cap) e i n c e)) (by simp [results, Tryd.results31, go_sem]) rfl ⟨rfl, ((Below.refl _ _).alloc (Nat.le_refl _) _).alloc (by simp) _⟩
  | cons t r =>
    obtain ⟨g, rfl, hg, hlt, c0, c1, c2, c3⟩ := h.here hd
    clear hd h
    go_enter Tryd.func31, Tryd.ntmps31
    go_wp2_with fail
    refine bodyPost_ret (v := .agg (rdA (.slice (some ⟨g, 0, none⟩) ts.length cap) e i n c t.pos)) (by simp [results, Tryd.results31, go_sem]) rfl ⟨rfl, ((Below.refl _ _).alloc (Nat.le_refl _) _).alloc (by simp) _⟩
end Go.Proofs.YtcaaadhhaanbcaaDoor
