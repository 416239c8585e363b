/- The walks of the parser's small steps: the kind of the next token, its place, a sign that is passed. -/
import Derived.Test.YtcaaadhhaanbcaaDoorWx
import Derived.Test.YtcaaadhhaanbcaaDoorPt
namespace Go.Proofs.YtcaaadhhaanbcaaDoor
open Go.RowKit

/-- In w block p is a parser over the tokens ts (a row of the call's own, from B on), at token i, with n nodes. -/
structure PS (B : Nat) (w : World) (p : Nat) (v : Value) (ts : List Tok) (e i n : Nat) : Prop where
  hp : w.heap[p]? = some (.cells #[v, .int .i64 i, .int .i64 e, .int .i64 n] 50 (0, 0))
  own : w.ownsRow B 40 4 v ts.length (toksCells ts)
  le : i ≤ ts.length
  small : ts.length ≤ 65536
  esmall : e ≤ 65536
  nsmall : n ≤ 1024

theorem toksCells_get (ts : List Tok) (i j : Nat) (t : Tok) (h : ts[i]? = some t) (hj : j < 4) : (toksCells ts)[i * 4 + j]? = (tokCells t)[j]? := by
  induction ts generalizing i with
  | nil => simp at h
  | cons a l ih =>
    cases i with
    | zero =>
      simp at h; subst h
      simp only [toksCells, List.flatMap_cons]
      rw [List.getElem?_append_left (by simp [tokCells]; omega)]; simp
    | succ i =>
      have := ih i (by simpa using h)
      simp only [toksCells, List.flatMap_cons] at *
      rw [List.getElem?_append_right (by simp [tokCells]; omega)]
      rw [← this]; congr 1; simp [tokCells]; omega

theorem PS.form {B p e i n : Nat} {w : World} {v : Value} {ts : List Tok} (h : PS B w p v ts e i n) : ∃ a cap, v = .slice a ts.length cap := by
  rcases h.own.2 with ⟨hv, h0⟩ | ⟨g, cap, cur, hv, _⟩
  · exact ⟨none, 0, by rw [hv, h0]⟩
  · exact ⟨_, _, hv⟩

theorem PS.here {B p e i n : Nat} {w : World} {v : Value} {ts r : List Tok} {t : Tok} (h : PS B w p v ts e i n) (ht : ts.drop i = t :: r) :
    ∃ g cap, v = .slice (some ⟨g, 0, none⟩) ts.length cap ∧ i < ts.length ∧ ts.length ≤ cap ∧ cap ≤ 9223372036854775807 ∧ w.cell? ⟨g, i * 4, none⟩ = some (.int .i64 t.kind) ∧ w.cell? ⟨g, i * 4 + 1, none⟩ = some (strV t.text) ∧
      w.cell? ⟨g, i * 4 + 2, none⟩ = some (.int .i64 t.n) ∧ w.cell? ⟨g, i * 4 + 3, none⟩ = some (.int .i64 t.pos) := by
  have hlt : i < ts.length := by
    rcases Nat.lt_or_ge i ts.length with h' | h'
    · exact h'
    · rw [List.drop_eq_nil_of_le h'] at ht; cases ht
  have hi : ts[i]? = some t := by
    have := List.drop_eq_getElem_cons hlt
    rw [ht] at this
    rw [List.getElem?_eq_getElem hlt]; exact congrArg some (List.cons.inj this).1.symm
  rcases h.own.2 with ⟨hv, h0⟩ | ⟨g, cap, cur, hv, hb, hh, hn, hm, hs, ht⟩
  · omega
  · have hown := h.own
    rw [hv] at hown
    have hc : ∀ j < 4, w.cell? ⟨g, i * 4 + j, none⟩ = (tokCells t)[j]? := fun j hj => by
      rw [hown.cellAt _ (by omega), toksCells_get ts i j t hi hj]
    exact ⟨g, cap, hv, hlt, hn, hm, hc 0 (by decide), hc 1 (by decide), hc 2 (by decide), hc 3 (by decide)⟩

theorem PS.cell {B p e i n : Nat} {w : World} {v : Value} {ts : List Tok} (h : PS B w p v ts e i n) :
    w.cell? ⟨p, 0, none⟩ = some v ∧ w.cell? ⟨p, 1, none⟩ = some (.int .i64 i) ∧ w.cell? ⟨p, 2, none⟩ = some (.int .i64 e) ∧ w.cell? ⟨p, 3, none⟩ = some (.int .i64 n) := by
  refine ⟨?_, ?_, ?_, ?_⟩ <;> (rw [Lib.cell_of_heap h.hp]; rfl)

def Drw (w w' : World) : Prop := ∃ m, w' = w.drewN m
theorem Drw.refl (w : World) : Drw w w := ⟨0, rfl⟩
theorem Drw.drewN {w w' : World} (h : Drw w w') (m : Nat) : Drw w (w'.drewN m) := by
  obtain ⟨k, rfl⟩ := h; exact ⟨k + m, World.drewN_drewN _ _ _⟩
theorem Drw.trans {a b c : World} (h : Drw a b) (k : Drw b c) : Drw a c := by
  obtain ⟨m, rfl⟩ := k; exact h.drewN m

set_option maxHeartbeats 1000000 in
theorem f54_any {B p e i n : Nat} {w : World} {v : Value} {ts : List Tok} (h : PS B w p v ts e i n) :
    Calls Tryd.prog 54 #[.pointer (some ⟨p, 0, none⟩)] w fun e w' => e = .returned (.int .i64 (kindT (ts.drop i))) ∧ Drw w w' := by
  obtain ⟨c0, c1, c2, c3⟩ := h.cell
  have hle := h.le
  have hsm := h.small
  cases hd : ts.drop i with
  | nil =>
    have hge : ¬ i < ts.length := by
      intro hlt; rw [List.drop_eq_getElem_cons hlt] at hd; cases hd
    obtain ⟨a, cap, rfl⟩ := h.form
    clear hd h
    go_enter Tryd.func54, Tryd.ntmps54
    go_wp2
    go_quiet (fail)
    go_wp2
    go_ret
    exact ⟨rfl, _, rfl⟩
  | cons t r =>
    obtain ⟨g, cap, rfl, hlt, hn, hm, k0, k1, k2, k3⟩ := h.here hd
    clear hd h
    go_enter Tryd.func54, Tryd.ntmps54
    go_wp2
    go_quiet (fail)
    go_wp2
    go_quiet (fail)
    go_wp2
    go_ret
    exact ⟨rfl, ((Drw.refl _).drewN _).drewN _⟩

set_option maxHeartbeats 1000000 in
theorem f29_any {B p e i n : Nat} {w : World} {v : Value} {ts : List Tok} (h : PS B w p v ts e i n) :
    Calls Tryd.prog 29 #[.pointer (some ⟨p, 0, none⟩)] w fun en w' => en = .returned (.int .i64 (posT e (ts.drop i) : Nat)) ∧ Drw w w' := by
  obtain ⟨c0, c1, c2, c3⟩ := h.cell
  have hle := h.le
  have hsm := h.small
  cases hd : ts.drop i with
  | nil =>
    have hge : ¬ i < ts.length := by
      intro hlt; rw [List.drop_eq_getElem_cons hlt] at hd; cases hd
    obtain ⟨a, cap, rfl⟩ := h.form
    clear hd h
    go_enter Tryd.func29, Tryd.ntmps29
    go_wp2
    go_quiet (fail)
    go_wp2
    go_ret
    exact ⟨rfl, _, rfl⟩
  | cons t r =>
    obtain ⟨g, cap, rfl, hlt, hn, hm, k0, k1, k2, k3⟩ := h.here hd
    clear hd h
    go_enter Tryd.func29, Tryd.ntmps29
    go_wp2
    go_quiet (fail)
    go_wp2
    go_quiet (fail)
    go_wp2
    go_ret
    exact ⟨rfl, ((Drw.refl _).drewN _).drewN _⟩

theorem PS.drew {B p e i n : Nat} {w w' : World} {v : Value} {ts : List Tok} (h : PS B w p v ts e i n) (hd : Drw w w') : PS B w' p v ts e i n := by
  obtain ⟨m, rfl⟩ := hd; exact ⟨h.hp, h.own, h.le, h.small, h.esmall, h.nsmall⟩

theorem PS.drewN {B p e i n : Nat} {w : World} {v : Value} {ts : List Tok} (h : PS B w p v ts e i n) (m : Nat) : PS B (w.drewN m) p v ts e i n := h.drew ⟨m, rfl⟩

set_option maxHeartbeats 1000000 in
theorem f53_no {B p e i n : Nat} {w : World} {v : Value} {ts : List Tok} (c : UInt8) (h : PS B w p v ts e i n) (hc : isT c (ts.drop i) = false) :
    Calls Tryd.prog 53 #[.pointer (some ⟨p, 0, none⟩), strV [c]] w fun en w' => en = .returned (.bool false) ∧ Drw w w' := by
  obtain ⟨c0, c1, c2, c3⟩ := h.cell
  have hle := h.le
  have hsm := h.small
  by_cases hk : kindT (ts.drop i) = 3
  · cases hd : ts.drop i with
    | nil => rw [hd] at hk; simp [kindT] at hk
    | cons t r =>
      obtain ⟨g, cap, rfl, hlt, hn, hm, k0, k1, k2, k3⟩ := h.here hd
      have hne : (t.text == [c]) = false := by
        rw [hd] at hc hk; simp only [isT, isS, kindT] at hc hk; rw [hk] at hc; simpa using hc
      have H54 := Lib.hid (fun W (hW : Drw w W) => f54_any (h.drew hW))
      rw [hk] at H54
      clear hd hk hc k0 k2 k3
      go_enter Tryd.func53, Tryd.ntmps53
      go_wp2_with fail
      go_quiet ((go_at_call 54; exact Calls.quiet_of (H54.out _ ⟨_, rfl⟩)))
      go_wp2_with fail
      go_ret
      exact ⟨rfl, _, rfl⟩
  · have hk3 : (kindT (ts.drop i) == 3) = false := by simpa using hk
    have H54 := Lib.hid (fun W (hW : Drw w W) => f54_any (h.drew hW))
    generalize kindT (ts.drop i) = kk at *
    clear hk hc
    go_enter Tryd.func53, Tryd.ntmps53
    go_wp2_with fail
    go_quiet ((go_at_call 54; exact Calls.quiet_of (H54.out _ ⟨_, rfl⟩)))
    go_wp2_with fail
    go_ret
    exact ⟨rfl, _, rfl⟩
theorem grownBy_trans {a b c : World} {p : Nat} (h : a.grownBy b (some p)) (k : b.grownBy c (some p)) : a.grownBy c (some p) :=
  ⟨k.os.trans h.os, k.tape.trans h.tape, k.output.trans h.output, Nat.le_trans h.size k.size, fun i hi hne => (k.block i (Nat.lt_of_lt_of_le hi h.size) hne).trans (h.block i hi hne)⟩
theorem grownBy_below {w w' : World} {p : Nat} (h : Below w.heap.size w w') : w.grownBy w' (some p) := ⟨h.os, h.tape, h.output, h.size, fun k hk _ => h.block k hk⟩
theorem grownBy_drw {w w' : World} {p : Nat} (h : Drw w w') : w.grownBy w' (some p) := by
  obtain ⟨m, rfl⟩ := h; exact ⟨rfl, rfl, rfl, Nat.le_refl _, fun _ _ _ => rfl⟩
theorem grownBy_set {w w' : World} {p : Nat} (h : w.grownBy w' (some p)) (o : Nat) (v : Value) : w.grownBy (w'.setCell ⟨p, o, none⟩ v) (some p) :=
  ⟨h.os, h.tape, h.output, by simpa [World.setCell] using h.size, fun k hk hne => (Below.heap_setCell _ _ _ _ (fun e => hne (by simp [e]))).trans (h.block k hk hne)⟩

theorem PS.vp {B p e i n : Nat} {w : World} {v : Value} {ts : List Tok} (h : PS B w p v ts e i n) : v.ownBlock ≠ some p := by
  rcases h.own.2 with ⟨rfl, _⟩ | ⟨g, cap, cur, rfl, _, hg, _⟩
  · simp [Value.ownBlock]
  · intro he
    simp only [Value.ownBlock, Option.some.injEq] at he
    subst he
    rw [h.hp] at hg
    simp at hg
theorem PS.lt {B p e i n : Nat} {w : World} {v : Value} {ts : List Tok} (h : PS B w p v ts e i n) : p < w.heap.size := (Array.getElem?_eq_some_iff.1 h.hp).1

/-- Behind a call that turned nothing but the parser's block, of which the new content is known. -/
theorem PS.moved {B p e i n i' n' : Nat} {w w' : World} {v : Value} {ts : List Tok} (h : PS B w p v ts e i n) (hg : w.grownBy w' (some p))
    (hp : w'.heap[p]? = some (.cells #[v, .int .i64 i', .int .i64 e, .int .i64 n'] 50 (0, 0))) (hi : i' ≤ ts.length) (hn : n' ≤ 1024) : PS B w' p v ts e i' n' :=
  ⟨hp, h.own.kept hg (.inr h.vp), hi, h.small, h.esmall, hn⟩

theorem PS.setI {B p e i n : Nat} {w : World} {v : Value} {ts : List Tok} (h : PS B w p v ts e i n) (i' : Nat) (hi : i' ≤ ts.length) : PS B (w.setCell ⟨p, 1, none⟩ (.int .i64 i')) p v ts e i' n := by
  refine h.moved (grownBy_set (grownBy_drw (Drw.refl _)) _ _) ?_ hi h.nsmall
  simp [World.setCell, Array.getElem?_modify, h.hp]
theorem PS.setN {B p e i n : Nat} {w : World} {v : Value} {ts : List Tok} (h : PS B w p v ts e i n) (n' : Nat) (hn : n' ≤ 1024) : PS B (w.setCell ⟨p, 3, none⟩ (.int .i64 n')) p v ts e i n' := by
  refine h.moved (grownBy_set (grownBy_drw (Drw.refl _)) _ _) ?_ h.le hn
  simp [World.setCell, Array.getElem?_modify, h.hp]
theorem PS.frz {B p e i n : Nat} {w : World} {v : Value} {ts : List Tok} (h : PS B w p v ts e i n) (j : Nat) : w.frozen? ⟨p, j, none⟩ = false := Lib.frozen_of_heap h.hp j

set_option maxHeartbeats 1000000 in
theorem f53_yes {B p e i n : Nat} {w : World} {v : Value} {ts : List Tok} (c : UInt8) (h : PS B w p v ts e i n) (hc : isT c (ts.drop i) = true) :
    Calls Tryd.prog 53 #[.pointer (some ⟨p, 0, none⟩), strV [c]] w fun en w' => en = .returned (.bool true) ∧ PS B w' p v ts e (i + 1) n ∧ w.grownBy w' (some p) := by
  have HPS := Lib.hid (fun m (hi : i + 1 ≤ ts.length) => (h.drewN m).setI (i + 1) hi)
  obtain ⟨c0, c1, c2, c3⟩ := h.cell
  have f1 := h.frz 1
  have hle := h.le
  have hsm := h.small
  cases hd : ts.drop i with
  | nil => rw [hd] at hc; simp [isT] at hc
  | cons t r =>
    obtain ⟨g, cap, rfl, hlt, hn, hm, k0, k1, k2, k3⟩ := h.here hd
    rw [hd] at hc
    simp only [isT, isS, Bool.and_eq_true] at hc
    obtain ⟨hk, he⟩ := hc
    have hk' : t.kind = 3 := by simpa using hk
    have H54 : Hid (∀ W, Drw w W → Calls Tryd.prog 54 #[.pointer (some ⟨p, 0, none⟩)] W fun e w' => e = .returned (.int .i64 3) ∧ Drw W w') := Lib.hid (fun W hW => by
      have := f54_any (h.drew hW); rw [hd] at this; simp only [kindT, hk'] at this; exact this)
    clear hd hk hk' k0 k2 k3
    go_enter Tryd.func53, Tryd.ntmps53
    go_wp2_with fail
    go_quiet ((go_at_call 54; exact Calls.quiet_of (H54.out _ ⟨_, rfl⟩)))
    go_wp2_with fail
    go_ret
    exact ⟨rfl, HPS.out _ (by omega), grownBy_set (grownBy_drw ⟨_, rfl⟩) _ _⟩

set_option maxHeartbeats 1000000 in
theorem f56_yes {B p e i n : Nat} {w : World} {v : Value} {ts : List Tok} (c : UInt8) (h : PS B w p v ts e i n) (hc : isT c (ts.drop i) = true) :
    Calls Tryd.prog 56 #[.pointer (some ⟨p, 0, none⟩), strV [c]] w fun en w' => en = .returned (.tuple #[]) ∧ PS B w' p v ts e (i + 1) n ∧ w.grownBy w' (some p) := by
  have hnot : ∀ (x : Bool) (w : World), (Op.unary .not (.bool x)).run Tryd.prog w = .ok (.bool (!x)) w := fun _ _ => rfl
  go_enter Tryd.func56, Tryd.ntmps56
  go_wp2_with fail
  refine (f53_yes c h hc).mono ?_
  rintro en w1 ⟨rfl, h1, hg⟩
  go_wp2_with fail
  go_end0
  exact ⟨rfl, h1, hg⟩

set_option maxHeartbeats 1000000 in
theorem f56_no {B p e i n : Nat} {w : World} {v : Value} {ts : List Tok} (c : UInt8) (h : PS B w p v ts e i n) (hc : isT c (ts.drop i) = false) :
    Calls Tryd.prog 56 #[.pointer (some ⟨p, 0, none⟩), strV [c]] w fun en w' => en = faultE 14 (posT e (ts.drop i) : Nat) ∧ Drw w w' := by
  have hnot : ∀ (x : Bool) (w : World), (Op.unary .not (.bool x)).run Tryd.prog w = .ok (.bool (!x)) w := fun _ _ => rfl
  go_enter Tryd.func56, Tryd.ntmps56
  go_wp2_with fail
  refine (f53_no c h hc).mono ?_
  rintro en w1 ⟨rfl, hd1⟩
  go_wp2_with fail
  refine (f29_any (h.drew hd1)).mono ?_
  rintro en w2 ⟨rfl, hd2⟩
  go_wp2_with fail
  refine (f28_any _ _ _).mono ?_
  rintro en w3 ⟨rfl, rfl⟩
  exact ⟨rfl, rfl, hd1.trans hd2⟩
end Go.Proofs.YtcaaadhhaanbcaaDoor
