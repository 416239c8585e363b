/- The walk of an expression: the expression that the tokens have by the plain grammar, or the panic of its fault. -/
import Derived.Test.YtcaaadhhaanbcaaDoorWe
import Derived.Test.YtcaaadhhaanbcaaDoorRp
namespace Go.Proofs.YtcaaadhhaanbcaaDoor
open Go.RowKit

theorem exInfo : (Tryd.prog.info? 26).map (fun i => (i.zero, i.size, i.bytes)) = some (some (.agg #[.int .i64 0, .string ⟨#[]⟩, .int .i64 0, .slice none 0 0, .slice none 0 0]), 5, 80) := by kernel_rfl

def ExprPost (B : Nat) (w : World) (p : Nat) (v : Value) (ts : List Tok) (e : Nat) (r : PR) (en : Ending) (w' : World) : Prop :=
  match r with
  | .ok xs n' rest => ∃ x cs i', xs = [x] ∧ en = .returned (.agg cs) ∧ XV (fun b => w.heap.size ≤ b) w' x cs ∧ PS B w' p v ts e i' n' ∧ ts.drop i' = rest ∧ w.grownBy w' (some p)
  | .err c rest => en = faultE c (posT e rest : Nat) ∧ w.grownBy w' (some p)

theorem expr_err {B p e : Nat} {w w' : World} {v : Value} {ts : List Tok} {c : Int} {rest : List Tok} (hg : w.grownBy w' (some p)) : ExprPost B w p v ts e (.err c rest) (faultE c (posT e rest : Nat)) w' := ⟨rfl, hg⟩

def Says27 (B p : Nat) (v : Value) (ts : List Tok) (e k : Nat) : Prop :=
  ∀ (d n i : Nat) (r : PR) (w : World), (ts.drop i).length ≤ k → d ≤ 33 → PS B w p v ts e i n → PX none d n (ts.drop i) r →
    Calls Tryd.prog 27 #[.pointer (some ⟨p, 0, none⟩), .int .i64 d] w (ExprPost B w p v ts e r)

abbrev zeroEx : Obj := .cells #[.int .i64 0, .string ⟨#[]⟩, .int .i64 0, .slice none 0 0, .slice none 0 0] 26

theorem grownBy_alloc {w w' : World} {p : Nat} (h : w.grownBy w' (some p)) (o : Obj) : w.grownBy (w'.alloc o) (some p) :=
  ⟨h.os, h.tape, h.output, Nat.le_trans h.size (by simp), fun k hk hne => (Below.heap_alloc w' o k (Nat.lt_of_lt_of_le hk h.size)).trans (h.block k hk hne)⟩
theorem PS.alloc {B p e i n : Nat} {w : World} {v : Value} {ts : List Tok} (h : PS B w p v ts e i n) (o : Obj) : PS B (w.alloc o) p v ts e i n :=
  ⟨(Below.heap_alloc w o p h.lt).trans h.hp, h.own.alloc o, h.le, h.small, h.esmall, h.nsmall⟩

theorem px_begins {d n : Nat} {l : List Tok} {r : PR} (h : PX none d n l r) : begins l = false ∧ r = .err 14 l ∨ begins l = true := by
  cases hb : begins l with
  | true => exact .inr rfl
  | false =>
    refine .inl ⟨rfl, ?_⟩
    cases h with
    | bad _ => rfl
    | deep h => rw [h] at hb; cases hb
    | num hk => simp [begins, isT, isS, kindT, hk] at hb
    | list hk => simp [begins, isT, hk] at hb
    | listErr hk => simp [begins, isT, hk] at hb
    | name hk => simp [begins, isT, isS, kindT, hk] at hb
    | call hk => simp [begins, isT, isS, kindT, hk] at hb
    | callErr hk => simp [begins, isT, isS, kindT, hk] at hb

set_option maxRecDepth 100000 in
set_option maxHeartbeats 8000000 in
theorem f27_bad {B p e i n d : Nat} {w : World} {v : Value} {ts : List Tok} (h : PS B w p v ts e i n) (hb : begins (ts.drop i) = false) :
    Calls Tryd.prog 27 #[.pointer (some ⟨p, 0, none⟩), .int .i64 d] w (ExprPost B w p v ts e (.err 14 (ts.drop i))) := by
  have hnot : ∀ (x : Bool) (w : World), (Op.unary .not (.bool x)).run Tryd.prog w = .ok (.bool (!x)) w := fun _ _ => rfl
  have hA := h.alloc zeroEx
  obtain ⟨c0, c1, c2, c3⟩ := hA.cell
  simp only [begins, Bool.or_eq_false_iff] at hb
  obtain ⟨⟨h91, hk2⟩, hk1⟩ := hb
  have Hg : Hid (w.grownBy (w.alloc zeroEx) (some p)) := Lib.hid (grownBy_alloc (grownBy_drw (Drw.refl w)) _)
  go_enter Tryd.func27, Tryd.ntmps27
  go_wp2_with fail
  have H29 := Lib.hid (fun W (hW : Drw (w.alloc zeroEx) W) => f29_any (hA.drew hW))
  go_quiet ((go_at_call 29; exact Calls.quiet_of (H29.out _ ⟨_, rfl⟩)))
  have hd1 : Drw (w.alloc zeroEx) ((w.alloc zeroEx).drewN nq) := ⟨_, rfl⟩
  go_wp2_with fail
  refine (f53_no 91 (hA.drew hd1) h91).mono ?_
  rintro en w2 ⟨rfl, hd2⟩
  have hd12 := hd1.trans hd2
  go_wp2_with fail
  refine (f54_any (hA.drew hd12)).mono ?_
  rintro en w3 ⟨rfl, hd3⟩
  have hk2' : (kindT (ts.drop i) != 2) = true := by simpa using hk2
  have hk1' : (kindT (ts.drop i) != 1) = true := by simpa using hk1
  go_wp2_with fail
  refine (f28_any _ _ _).mono ?_
  rintro en w4 ⟨rfl, rfl⟩
  exact ⟨rfl, expr_err (grownBy_trans Hg.out (grownBy_drw (hd12.trans hd3)))⟩
theorem PS.setO {B p e i n b : Nat} {w : World} {v : Value} {ts : List Tok} (h : PS B w p v ts e i n) (o : Nat) (u : Value) (hb : b ≠ p) (hv : v.ownBlock ≠ some b) : PS B (w.setCell ⟨b, o, none⟩ u) p v ts e i n := by
  refine ⟨(Below.heap_setCell _ _ _ _ (fun e => hb (by simp at e; omega))).trans h.hp, ?_, h.le, h.small, h.esmall, h.nsmall⟩
  refine h.own.kept (row := some b) ⟨rfl, rfl, rfl, by simp [World.setCell], fun k _ hk => Below.heap_setCell _ _ _ _ (fun e => hk (by simp [e]))⟩ (.inr hv)
theorem grownBy_setNew {w w' : World} {p b : Nat} (h : w.grownBy w' (some p)) (hb : w.heap.size ≤ b) (o : Nat) (v : Value) : w.grownBy (w'.setCell ⟨b, o, none⟩ v) (some p) :=
  ⟨h.os, h.tape, h.output, by simpa [World.setCell] using h.size, fun k hk hne => (Below.heap_setCell _ _ _ _ (fun e => by simp at e; omega)).trans (h.block k hk hne)⟩
theorem expr_ok {B p e i' n' : Nat} {w w' : World} {v : Value} {ts rest : List Tok} {x : Ex} {cs : Array Value} (hx : XV (fun b => w.heap.size ≤ b) w' x cs) (hp : PS B w' p v ts e i' n') (hr : ts.drop i' = rest) (hg : w.grownBy w' (some p)) :
    ExprPost B w p v ts e (.ok [x] n' rest) (.returned (.agg cs)) w' := ⟨x, cs, i', rfl, rfl, hx, hp, hr, hg⟩
theorem drop_next {ts l : List Tok} {i : Nat} {t : Tok} (h : ts.drop i = t :: l) : ts.drop (i + 1) = l := by rw [← List.tail_drop, h]; rfl
theorem drop_lt {ts l : List Tok} {i : Nat} {t : Tok} (h : ts.drop i = t :: l) : i < ts.length := by
  rcases Nat.lt_or_ge i ts.length with h' | h'
  · exact h'
  · rw [List.drop_eq_nil_of_le h'] at h; cases h

theorem put5 {w : World} {b T : Nat} {z0 z1 z2 z3 z4 : Value} (h : w.heap[b]? = some (.cells #[z0, z1, z2, z3, z4] T (0, 0))) (a0 a1 a2 a3 a4 : Value) :
    (((((w.setCell ⟨b, 0, none⟩ a0).setCell ⟨b, 1, none⟩ a1).setCell ⟨b, 2, none⟩ a2).setCell ⟨b, 3, none⟩ a3).setCell ⟨b, 4, none⟩ a4).heap[b]? = some (.cells #[a0, a1, a2, a3, a4] T (0, 0)) := by
  simp [World.setCell, Array.getElem?_modify, h]
theorem two_sets {w : World} {p b o1 o2 : Nat} {u1 u2 : Value} (hb : b ≠ p) : ((w.setCell ⟨p, o1, none⟩ u1).setCell ⟨p, o2, none⟩ u2).heap[b]? = w.heap[b]? :=
  (Below.heap_setCell _ _ _ _ hb).trans (Below.heap_setCell _ _ _ _ hb)

theorem block5 {w : World} {b T : Nat} {a0 a1 a2 a3 a4 : Value} (h : w.heap[b]? = some (.cells #[a0, a1, a2, a3, a4] T (0, 0))) :
    (w.cell? ⟨b, 0, none⟩ = some a0 ∧ w.cell? ⟨b, 1, none⟩ = some a1 ∧ w.cell? ⟨b, 2, none⟩ = some a2 ∧ w.cell? ⟨b, 3, none⟩ = some a3 ∧ w.cell? ⟨b, 4, none⟩ = some a4) ∧
    (w.frozen? ⟨b, 0, none⟩ = false ∧ w.frozen? ⟨b, 1, none⟩ = false ∧ w.frozen? ⟨b, 2, none⟩ = false ∧ w.frozen? ⟨b, 3, none⟩ = false ∧ w.frozen? ⟨b, 4, none⟩ = false) ∧ b < w.heap.size := by
  refine ⟨⟨?_, ?_, ?_, ?_, ?_⟩, ⟨?_, ?_, ?_, ?_, ?_⟩, (Array.getElem?_eq_some_iff.1 h).1⟩
  all_goals first | (rw [Lib.cell_of_heap h]; rfl) | exact Lib.frozen_of_heap h _

set_option maxRecDepth 100000 in
set_option maxHeartbeats 8000000 in
theorem f27_deep_91d {B p e i n d : Nat} {w : World} {v : Value} {ts : List Tok} (h : PS B w p v ts e i n) (h91 : isT 91 (ts.drop i) = true)  (hd : 32 < d) :
    Calls Tryd.prog 27 #[.pointer (some ⟨p, 0, none⟩), .int .i64 d] w (ExprPost B w p v ts e (.err 8 (ts.drop i))) := by
  have hnot : ∀ (x : Bool) (w : World), (Op.unary .not (.bool x)).run Tryd.prog w = .ok (.bool (!x)) w := fun _ _ => rfl
  have hA := h.alloc zeroEx
  obtain ⟨c0, c1, c2, c3⟩ := hA.cell
  have Hg : Hid (w.grownBy (w.alloc zeroEx) (some p)) := Lib.hid (grownBy_alloc (grownBy_drw (Drw.refl w)) _)
  have hlp := h.lt
  go_enter Tryd.func27, Tryd.ntmps27
  go_wp2_with fail
  have H29 := Lib.hid (fun W (hW : Drw (w.alloc zeroEx) W) => f29_any (hA.drew hW))
  go_quiet ((go_at_call 29; exact Calls.quiet_of (H29.out _ ⟨_, rfl⟩)))
  have hd1 : Drw (w.alloc zeroEx) ((w.alloc zeroEx).drewN nq) := ⟨_, rfl⟩
  go_wp2_with fail
  refine (f53_yes 91 (hA.drew hd1) h91).mono ?_
  rintro en w2 ⟨rfl, h2, hg2⟩
  go_wp2_with fail
  refine (f54_any h2).mono ?_
  rintro en w3 ⟨rfl, hd3⟩
  have hP := h2.drew hd3
  have Hg3 := Lib.hid (grownBy_trans Hg.out (grownBy_trans (grownBy_trans (grownBy_drw (p := p) hd1) hg2) (grownBy_drw hd3)))
  have Hr3 : Hid (w3.heap[w.heap.size]? = some zeroEx) := Lib.hid (by
    obtain ⟨m, rfl⟩ := hd3
    exact (hg2.block _ (by simp [World.drewN]) (fun e => by simp at e; omega)).trans (heap_alloc_new w _))
  clear hd3 h2 hg2 hd1 c0 c1 c2 c3
  obtain ⟨c0, c1, c2, c3⟩ := hP.cell
  have f1 := hP.frz 1
  have f3 := hP.frz 3
  go_wp2_with fail
  refine (f28_any _ _ _).mono ?_
  rintro en w4 ⟨rfl, rfl⟩
  exact ⟨rfl, expr_err Hg3.out⟩

set_option maxRecDepth 100000 in
set_option maxHeartbeats 8000000 in
theorem f27_deep_91n {B p e i n d : Nat} {w : World} {v : Value} {ts : List Tok} (h : PS B w p v ts e i n) (h91 : isT 91 (ts.drop i) = true)  (hd : d ≤ 32) (hn : n = 1024) :
    Calls Tryd.prog 27 #[.pointer (some ⟨p, 0, none⟩), .int .i64 d] w (ExprPost B w p v ts e (.err 8 (ts.drop i))) := by
  have hnot : ∀ (x : Bool) (w : World), (Op.unary .not (.bool x)).run Tryd.prog w = .ok (.bool (!x)) w := fun _ _ => rfl
  have hA := h.alloc zeroEx
  obtain ⟨c0, c1, c2, c3⟩ := hA.cell
  have Hg : Hid (w.grownBy (w.alloc zeroEx) (some p)) := Lib.hid (grownBy_alloc (grownBy_drw (Drw.refl w)) _)
  have hlp := h.lt
  have hn' : ((n : Int) == 1024) = true := by simp; omega
  clear hn
  go_enter Tryd.func27, Tryd.ntmps27
  go_wp2_with fail
  have H29 := Lib.hid (fun W (hW : Drw (w.alloc zeroEx) W) => f29_any (hA.drew hW))
  go_quiet ((go_at_call 29; exact Calls.quiet_of (H29.out _ ⟨_, rfl⟩)))
  have hd1 : Drw (w.alloc zeroEx) ((w.alloc zeroEx).drewN nq) := ⟨_, rfl⟩
  go_wp2_with fail
  refine (f53_yes 91 (hA.drew hd1) h91).mono ?_
  rintro en w2 ⟨rfl, h2, hg2⟩
  go_wp2_with fail
  refine (f54_any h2).mono ?_
  rintro en w3 ⟨rfl, hd3⟩
  have hP := h2.drew hd3
  have Hg3 := Lib.hid (grownBy_trans Hg.out (grownBy_trans (grownBy_trans (grownBy_drw (p := p) hd1) hg2) (grownBy_drw hd3)))
  have Hr3 : Hid (w3.heap[w.heap.size]? = some zeroEx) := Lib.hid (by
    obtain ⟨m, rfl⟩ := hd3
    exact (hg2.block _ (by simp [World.drewN]) (fun e => by simp at e; omega)).trans (heap_alloc_new w _))
  clear hd3 h2 hg2 hd1 c0 c1 c2 c3
  obtain ⟨c0, c1, c2, c3⟩ := hP.cell
  have f1 := hP.frz 1
  have f3 := hP.frz 3
  go_wp2_with fail
  refine (f28_any _ _ _).mono ?_
  rintro en w4 ⟨rfl, rfl⟩
  exact ⟨rfl, expr_err Hg3.out⟩

set_option maxRecDepth 100000 in
set_option maxHeartbeats 8000000 in
theorem f27_deep_k2d {B p e i n d : Nat} {w : World} {v : Value} {ts : List Tok} (h : PS B w p v ts e i n) (h91 : isT 91 (ts.drop i) = false) (hkind : kindT (ts.drop i) = 2) (hd : 32 < d) :
    Calls Tryd.prog 27 #[.pointer (some ⟨p, 0, none⟩), .int .i64 d] w (ExprPost B w p v ts e (.err 8 (ts.drop i))) := by
  have hnot : ∀ (x : Bool) (w : World), (Op.unary .not (.bool x)).run Tryd.prog w = .ok (.bool (!x)) w := fun _ _ => rfl
  have hA := h.alloc zeroEx
  obtain ⟨c0, c1, c2, c3⟩ := hA.cell
  have Hg : Hid (w.grownBy (w.alloc zeroEx) (some p)) := Lib.hid (grownBy_alloc (grownBy_drw (Drw.refl w)) _)
  have hlp := h.lt
  go_enter Tryd.func27, Tryd.ntmps27
  go_wp2_with fail
  have H29 := Lib.hid (fun W (hW : Drw (w.alloc zeroEx) W) => f29_any (hA.drew hW))
  go_quiet ((go_at_call 29; exact Calls.quiet_of (H29.out _ ⟨_, rfl⟩)))
  have hd1 : Drw (w.alloc zeroEx) ((w.alloc zeroEx).drewN nq) := ⟨_, rfl⟩
  go_wp2_with fail
  refine (f53_no 91 (hA.drew hd1) h91).mono ?_
  rintro en w2 ⟨rfl, hd2⟩
  have hd12 := hd1.trans hd2
  go_wp2_with fail
  have h54 := f54_any (hA.drew hd12)
  rw [hkind] at h54
  refine h54.mono ?_
  rintro en w3 ⟨rfl, hd3⟩
  have hP := hA.drew (hd12.trans hd3)
  have Hg3 := Lib.hid (grownBy_trans Hg.out (grownBy_drw (p := p) (hd12.trans hd3)))
  have Hr3 : Hid (w3.heap[w.heap.size]? = some zeroEx) := Lib.hid (by obtain ⟨m, rfl⟩ := hd12.trans hd3; exact heap_alloc_new w _)
  have HD3 := Lib.hid (hd12.trans hd3)
  clear hd3 h54 hd12 hd2 hd1 c0 c1 c2 c3
  obtain ⟨c0, c1, c2, c3⟩ := hP.cell
  have f1 := hP.frz 1
  have f3 := hP.frz 3
  go_wp2_with fail
  refine (f28_any _ _ _).mono ?_
  rintro en w4 ⟨rfl, rfl⟩
  exact ⟨rfl, expr_err Hg3.out⟩

set_option maxRecDepth 100000 in
set_option maxHeartbeats 8000000 in
theorem f27_deep_k2n {B p e i n d : Nat} {w : World} {v : Value} {ts : List Tok} (h : PS B w p v ts e i n) (h91 : isT 91 (ts.drop i) = false) (hkind : kindT (ts.drop i) = 2) (hd : d ≤ 32) (hn : n = 1024) :
    Calls Tryd.prog 27 #[.pointer (some ⟨p, 0, none⟩), .int .i64 d] w (ExprPost B w p v ts e (.err 8 (ts.drop i))) := by
  have hnot : ∀ (x : Bool) (w : World), (Op.unary .not (.bool x)).run Tryd.prog w = .ok (.bool (!x)) w := fun _ _ => rfl
  have hA := h.alloc zeroEx
  obtain ⟨c0, c1, c2, c3⟩ := hA.cell
  have Hg : Hid (w.grownBy (w.alloc zeroEx) (some p)) := Lib.hid (grownBy_alloc (grownBy_drw (Drw.refl w)) _)
  have hlp := h.lt
  have hn' : ((n : Int) == 1024) = true := by simp; omega
  clear hn
  go_enter Tryd.func27, Tryd.ntmps27
  go_wp2_with fail
  have H29 := Lib.hid (fun W (hW : Drw (w.alloc zeroEx) W) => f29_any (hA.drew hW))
  go_quiet ((go_at_call 29; exact Calls.quiet_of (H29.out _ ⟨_, rfl⟩)))
  have hd1 : Drw (w.alloc zeroEx) ((w.alloc zeroEx).drewN nq) := ⟨_, rfl⟩
  go_wp2_with fail
  refine (f53_no 91 (hA.drew hd1) h91).mono ?_
  rintro en w2 ⟨rfl, hd2⟩
  have hd12 := hd1.trans hd2
  go_wp2_with fail
  have h54 := f54_any (hA.drew hd12)
  rw [hkind] at h54
  refine h54.mono ?_
  rintro en w3 ⟨rfl, hd3⟩
  have hP := hA.drew (hd12.trans hd3)
  have Hg3 := Lib.hid (grownBy_trans Hg.out (grownBy_drw (p := p) (hd12.trans hd3)))
  have Hr3 : Hid (w3.heap[w.heap.size]? = some zeroEx) := Lib.hid (by obtain ⟨m, rfl⟩ := hd12.trans hd3; exact heap_alloc_new w _)
  have HD3 := Lib.hid (hd12.trans hd3)
  clear hd3 h54 hd12 hd2 hd1 c0 c1 c2 c3
  obtain ⟨c0, c1, c2, c3⟩ := hP.cell
  have f1 := hP.frz 1
  have f3 := hP.frz 3
  go_wp2_with fail
  refine (f28_any _ _ _).mono ?_
  rintro en w4 ⟨rfl, rfl⟩
  exact ⟨rfl, expr_err Hg3.out⟩

set_option maxRecDepth 100000 in
set_option maxHeartbeats 8000000 in
theorem f27_deep_k1d {B p e i n d : Nat} {w : World} {v : Value} {ts : List Tok} (h : PS B w p v ts e i n) (h91 : isT 91 (ts.drop i) = false) (hkind : kindT (ts.drop i) = 1) (hd : 32 < d) :
    Calls Tryd.prog 27 #[.pointer (some ⟨p, 0, none⟩), .int .i64 d] w (ExprPost B w p v ts e (.err 8 (ts.drop i))) := by
  have hnot : ∀ (x : Bool) (w : World), (Op.unary .not (.bool x)).run Tryd.prog w = .ok (.bool (!x)) w := fun _ _ => rfl
  have hA := h.alloc zeroEx
  obtain ⟨c0, c1, c2, c3⟩ := hA.cell
  have Hg : Hid (w.grownBy (w.alloc zeroEx) (some p)) := Lib.hid (grownBy_alloc (grownBy_drw (Drw.refl w)) _)
  have hlp := h.lt
  go_enter Tryd.func27, Tryd.ntmps27
  go_wp2_with fail
  have H29 := Lib.hid (fun W (hW : Drw (w.alloc zeroEx) W) => f29_any (hA.drew hW))
  go_quiet ((go_at_call 29; exact Calls.quiet_of (H29.out _ ⟨_, rfl⟩)))
  have hd1 : Drw (w.alloc zeroEx) ((w.alloc zeroEx).drewN nq) := ⟨_, rfl⟩
  go_wp2_with fail
  refine (f53_no 91 (hA.drew hd1) h91).mono ?_
  rintro en w2 ⟨rfl, hd2⟩
  have hd12 := hd1.trans hd2
  go_wp2_with fail
  have h54 := f54_any (hA.drew hd12)
  rw [hkind] at h54
  refine h54.mono ?_
  rintro en w3 ⟨rfl, hd3⟩
  have hP := hA.drew (hd12.trans hd3)
  have Hg3 := Lib.hid (grownBy_trans Hg.out (grownBy_drw (p := p) (hd12.trans hd3)))
  have Hr3 : Hid (w3.heap[w.heap.size]? = some zeroEx) := Lib.hid (by obtain ⟨m, rfl⟩ := hd12.trans hd3; exact heap_alloc_new w _)
  have HD3 := Lib.hid (hd12.trans hd3)
  clear hd3 h54 hd12 hd2 hd1 c0 c1 c2 c3
  obtain ⟨c0, c1, c2, c3⟩ := hP.cell
  have f1 := hP.frz 1
  have f3 := hP.frz 3
  go_wp2_with fail
  refine (f28_any _ _ _).mono ?_
  rintro en w4 ⟨rfl, rfl⟩
  exact ⟨rfl, expr_err Hg3.out⟩

set_option maxRecDepth 100000 in
set_option maxHeartbeats 8000000 in
theorem f27_deep_k1n {B p e i n d : Nat} {w : World} {v : Value} {ts : List Tok} (h : PS B w p v ts e i n) (h91 : isT 91 (ts.drop i) = false) (hkind : kindT (ts.drop i) = 1) (hd : d ≤ 32) (hn : n = 1024) :
    Calls Tryd.prog 27 #[.pointer (some ⟨p, 0, none⟩), .int .i64 d] w (ExprPost B w p v ts e (.err 8 (ts.drop i))) := by
  have hnot : ∀ (x : Bool) (w : World), (Op.unary .not (.bool x)).run Tryd.prog w = .ok (.bool (!x)) w := fun _ _ => rfl
  have hA := h.alloc zeroEx
  obtain ⟨c0, c1, c2, c3⟩ := hA.cell
  have Hg : Hid (w.grownBy (w.alloc zeroEx) (some p)) := Lib.hid (grownBy_alloc (grownBy_drw (Drw.refl w)) _)
  have hlp := h.lt
  have hn' : ((n : Int) == 1024) = true := by simp; omega
  clear hn
  go_enter Tryd.func27, Tryd.ntmps27
  go_wp2_with fail
  have H29 := Lib.hid (fun W (hW : Drw (w.alloc zeroEx) W) => f29_any (hA.drew hW))
  go_quiet ((go_at_call 29; exact Calls.quiet_of (H29.out _ ⟨_, rfl⟩)))
  have hd1 : Drw (w.alloc zeroEx) ((w.alloc zeroEx).drewN nq) := ⟨_, rfl⟩
  go_wp2_with fail
  refine (f53_no 91 (hA.drew hd1) h91).mono ?_
  rintro en w2 ⟨rfl, hd2⟩
  have hd12 := hd1.trans hd2
  go_wp2_with fail
  have h54 := f54_any (hA.drew hd12)
  rw [hkind] at h54
  refine h54.mono ?_
  rintro en w3 ⟨rfl, hd3⟩
  have hP := hA.drew (hd12.trans hd3)
  have Hg3 := Lib.hid (grownBy_trans Hg.out (grownBy_drw (p := p) (hd12.trans hd3)))
  have Hr3 : Hid (w3.heap[w.heap.size]? = some zeroEx) := Lib.hid (by obtain ⟨m, rfl⟩ := hd12.trans hd3; exact heap_alloc_new w _)
  have HD3 := Lib.hid (hd12.trans hd3)
  clear hd3 h54 hd12 hd2 hd1 c0 c1 c2 c3
  obtain ⟨c0, c1, c2, c3⟩ := hP.cell
  have f1 := hP.frz 1
  have f3 := hP.frz 3
  go_wp2_with fail
  refine (f28_any _ _ _).mono ?_
  rintro en w4 ⟨rfl, rfl⟩
  exact ⟨rfl, expr_err Hg3.out⟩

set_option maxRecDepth 100000 in
set_option maxHeartbeats 8000000 in
theorem f27_num {B p e i n d : Nat} {w : World} {v : Value} {ts l : List Tok} {t : Tok} (h : PS B w p v ts e i n) (ht : ts.drop i = t :: l) (hk : t.kind = 2) (hd : d ≤ 32) (hn : n ≠ 1024)  :
    Calls Tryd.prog 27 #[.pointer (some ⟨p, 0, none⟩), .int .i64 d] w (ExprPost B w p v ts e (.ok [.mk 1 [] t.n [] []] (n + 1) l)) := by
  have h91 : isT 91 (ts.drop i) = false := by rw [ht]; simp [isT, isS, hk]
  have hkind : kindT (ts.drop i) = 2 := by rw [ht]; exact hk
  clear hk
  have hnn := h.nsmall
  have hn1k : n + 1 ≤ 1024 := by omega
  have hnb : ((n : Int) == 1024) = false := by simp; omega
  have hlt := drop_lt ht
  have Ht := Lib.hid ht; clear ht hn
  have hnot : ∀ (x : Bool) (w : World), (Op.unary .not (.bool x)).run Tryd.prog w = .ok (.bool (!x)) w := fun _ _ => rfl
  have hA := h.alloc zeroEx
  obtain ⟨c0, c1, c2, c3⟩ := hA.cell
  have Hg : Hid (w.grownBy (w.alloc zeroEx) (some p)) := Lib.hid (grownBy_alloc (grownBy_drw (Drw.refl w)) _)
  have hlp := h.lt
  go_enter Tryd.func27, Tryd.ntmps27
  go_wp2_with fail
  have H29 := Lib.hid (fun W (hW : Drw (w.alloc zeroEx) W) => f29_any (hA.drew hW))
  go_quiet ((go_at_call 29; exact Calls.quiet_of (H29.out _ ⟨_, rfl⟩)))
  have hd1 : Drw (w.alloc zeroEx) ((w.alloc zeroEx).drewN nq) := ⟨_, rfl⟩
  go_wp2_with fail
  refine (f53_no 91 (hA.drew hd1) h91).mono ?_
  rintro en w2 ⟨rfl, hd2⟩
  have hd12 := hd1.trans hd2
  go_wp2_with fail
  have h54 := f54_any (hA.drew hd12)
  rw [hkind] at h54
  refine h54.mono ?_
  rintro en w3 ⟨rfl, hd3⟩
  have hP := hA.drew (hd12.trans hd3)
  have Hg3 := Lib.hid (grownBy_trans Hg.out (grownBy_drw (p := p) (hd12.trans hd3)))
  have Hr3 : Hid (w3.heap[w.heap.size]? = some zeroEx) := Lib.hid (by obtain ⟨m, rfl⟩ := hd12.trans hd3; exact heap_alloc_new w _)
  have HD3 := Lib.hid (hd12.trans hd3)
  clear hd3 h54 hd12 hd2 hd1 c0 c1 c2 c3
  obtain ⟨c0, c1, c2, c3⟩ := hP.cell
  have f1 := hP.frz 1
  have f3 := hP.frz 3
  obtain ⟨g, cap, rfl, _, hn1, hm1, k0, k1, k2, k3⟩ := hP.here Ht.out
  have lg : g < w3.heap.size := World.block_lt_of_cell? w3 _ k0
  obtain ⟨⟨r0, r1, r2, r3, r4⟩, ⟨z0, z1, z2, z3, z4⟩, hrl⟩ := block5 Hr3.out
  have hwp : ¬ w.heap.size = p := by omega
  have hpw : ¬ p = w.heap.size := by omega
  have hS := hP.small
  have hvr := Lib.hid (own_ne hP.own Hr3.out (by decide))
  have hgp : g ≠ p := by
    intro e; subst e
    have := hP.vp; simp [Value.ownBlock] at this
  have HP5 := Lib.hid ((hP.setN (n + 1) hn1k).setI (i + 1) hlt)
  have HG5 := Lib.hid (grownBy_set (grownBy_set Hg3.out 3 (.int .i64 (n + 1 : Nat))) 1 (.int .i64 (i + 1 : Nat)))
  go_wp2_with fail
  have HF := (Below.heap_alloc _ (.cells #[.int .i64 t.kind, .string ⟨t.text.toArray⟩, .int .i64 t.n, .int .i64 t.pos] 40) _ (by simp; exact hrl)).trans (put5 ((two_sets (w := w3) (p := p) (o1 := 3) (o2 := 1) (u1 := .int .i64 ((n : Int) + 1)) (u2 := .int .i64 ((i : Int) + 1)) hwp).trans Hr3.out) (.int .i64 1) (.string ⟨#[]⟩) (.int .i64 t.n) (.slice none 0 0) (.slice none 0 0))
  obtain ⟨⟨q0, q1, q2, q3, q4⟩, _, _⟩ := block5 HF
  refine bodyPost_ret (v := .agg #[.int .i64 1, .string ⟨#[]⟩, .int .i64 t.n, .slice none 0 0, .slice none 0 0]) (by simp [results, Tryd.results27, go_sem, q0, q1, q2, q3, q4]) rfl ?_
  exact expr_ok ⟨_, _, rfl, RInts_nil, RArgs_nil⟩ ((((((HP5.out.setO _ _ hwp hvr.out).setO _ _ hwp hvr.out).setO _ _ hwp hvr.out).setO _ _ hwp hvr.out).setO _ _ hwp hvr.out).alloc _) (drop_next Ht.out)
    (grownBy_alloc (grownBy_setNew (grownBy_setNew (grownBy_setNew (grownBy_setNew (grownBy_setNew HG5.out (Nat.le_refl _) _ _) (Nat.le_refl _) _ _) (Nat.le_refl _) _ _) (Nat.le_refl _) _ _) (Nat.le_refl _) _ _) _)

set_option maxRecDepth 100000 in
set_option maxHeartbeats 8000000 in
theorem f27_name {B p e i n d : Nat} {w : World} {v : Value} {ts l : List Tok} {t : Tok} (h : PS B w p v ts e i n) (ht : ts.drop i = t :: l) (hk : t.kind = 1) (hd : d ≤ 32) (hn : n ≠ 1024) (hp : isT 40 l = false) :
    Calls Tryd.prog 27 #[.pointer (some ⟨p, 0, none⟩), .int .i64 d] w (ExprPost B w p v ts e (.ok [.mk 4 t.text 0 [] []] (n + 1) l)) := by
  have h91 : isT 91 (ts.drop i) = false := by rw [ht]; simp [isT, isS, hk]
  have hkind : kindT (ts.drop i) = 1 := by rw [ht]; exact hk
  clear hk
  have hnn := h.nsmall
  have hn1k : n + 1 ≤ 1024 := by omega
  have hnb : ((n : Int) == 1024) = false := by simp; omega
  have hlt := drop_lt ht
  have Ht := Lib.hid ht; clear ht hn
  have hnot : ∀ (x : Bool) (w : World), (Op.unary .not (.bool x)).run Tryd.prog w = .ok (.bool (!x)) w := fun _ _ => rfl
  have hA := h.alloc zeroEx
  obtain ⟨c0, c1, c2, c3⟩ := hA.cell
  have Hg : Hid (w.grownBy (w.alloc zeroEx) (some p)) := Lib.hid (grownBy_alloc (grownBy_drw (Drw.refl w)) _)
  have hlp := h.lt
  go_enter Tryd.func27, Tryd.ntmps27
  go_wp2_with fail
  have H29 := Lib.hid (fun W (hW : Drw (w.alloc zeroEx) W) => f29_any (hA.drew hW))
  go_quiet ((go_at_call 29; exact Calls.quiet_of (H29.out _ ⟨_, rfl⟩)))
  have hd1 : Drw (w.alloc zeroEx) ((w.alloc zeroEx).drewN nq) := ⟨_, rfl⟩
  go_wp2_with fail
  refine (f53_no 91 (hA.drew hd1) h91).mono ?_
  rintro en w2 ⟨rfl, hd2⟩
  have hd12 := hd1.trans hd2
  go_wp2_with fail
  have h54 := f54_any (hA.drew hd12)
  rw [hkind] at h54
  refine h54.mono ?_
  rintro en w3 ⟨rfl, hd3⟩
  have hP := hA.drew (hd12.trans hd3)
  have Hg3 := Lib.hid (grownBy_trans Hg.out (grownBy_drw (p := p) (hd12.trans hd3)))
  have Hr3 : Hid (w3.heap[w.heap.size]? = some zeroEx) := Lib.hid (by obtain ⟨m, rfl⟩ := hd12.trans hd3; exact heap_alloc_new w _)
  have HD3 := Lib.hid (hd12.trans hd3)
  clear hd3 h54 hd12 hd2 hd1 c0 c1 c2 c3
  obtain ⟨c0, c1, c2, c3⟩ := hP.cell
  have f1 := hP.frz 1
  have f3 := hP.frz 3
  obtain ⟨g, cap, rfl, _, hn1, hm1, k0, k1, k2, k3⟩ := hP.here Ht.out
  have lg : g < w3.heap.size := World.block_lt_of_cell? w3 _ k0
  obtain ⟨⟨r0, r1, r2, r3, r4⟩, ⟨z0, z1, z2, z3, z4⟩, hrl⟩ := block5 Hr3.out
  have hwp : ¬ w.heap.size = p := by omega
  have hpw : ¬ p = w.heap.size := by omega
  have hS := hP.small
  have hvr := Lib.hid (own_ne hP.own Hr3.out (by decide))
  have hgp : g ≠ p := by
    intro e; subst e
    have := hP.vp; simp [Value.ownBlock] at this
  have HP5 := Lib.hid ((hP.setN (n + 1) hn1k).setI (i + 1) hlt)
  have HG5 := Lib.hid (grownBy_set (grownBy_set Hg3.out 3 (.int .i64 (n + 1 : Nat))) 1 (.int .i64 (i + 1 : Nat)))
  have hp1 := f53_no 40 (HP5.out.alloc (.cells #[.int .i64 t.kind, .string ⟨t.text.toArray⟩, .int .i64 t.n, .int .i64 t.pos] 40)) (by rw [drop_next Ht.out]; exact hp)
  go_wp2_with fail
  refine hp1.mono ?_
  rintro en w6 ⟨rfl, hd6⟩
  have HP6 := Lib.hid ((HP5.out.alloc (.cells #[.int .i64 t.kind, .string ⟨t.text.toArray⟩, .int .i64 t.n, .int .i64 t.pos] 40)).drew hd6)
  have HG6 := Lib.hid (grownBy_trans (grownBy_alloc HG5.out (.cells #[.int .i64 t.kind, .string ⟨t.text.toArray⟩, .int .i64 t.n, .int .i64 t.pos] 40)) (grownBy_drw hd6))
  have HR6 : Hid (w6.heap[w.heap.size]? = some zeroEx) := Lib.hid (by obtain ⟨m, rfl⟩ := hd6; exact (Below.heap_alloc _ _ _ (by simp; exact hrl)).trans ((two_sets hwp).trans Hr3.out))
  have HT6 : Hid (w6.heap[w3.heap.size]? = some (.cells #[.int .i64 t.kind, .string ⟨t.text.toArray⟩, .int .i64 t.n, .int .i64 t.pos] 40)) := Lib.hid (by obtain ⟨m, rfl⟩ := hd6; have := heap_alloc_new ((w3.setCell ⟨p, 3, none⟩ (.int .i64 (n + 1 : Nat))).setCell ⟨p, 1, none⟩ (.int .i64 (i + 1 : Nat))) (.cells #[.int .i64 t.kind, .string ⟨t.text.toArray⟩, .int .i64 t.n, .int .i64 t.pos] 40); simpa [World.setCell, World.drewN] using this)
  clear hd6 r0 r1 r2 r3 r4 z0 z1 z2 z3 z4
  have y1 : w6.cell? ⟨w3.heap.size, 1, none⟩ = some (.string ⟨t.text.toArray⟩) := by rw [Lib.cell_of_heap HT6.out]; rfl
  obtain ⟨⟨r0, r1, r2, r3, r4⟩, ⟨z0, z1, z2, z3, z4⟩, hrl6⟩ := block5 HR6.out
  have hvr6 := Lib.hid (own_ne HP6.out.own HR6.out (by decide))
  have hne : ¬ w.heap.size = w3.heap.size := by omega
  go_wp2_with fail
  have HF := put5 HR6.out (.int .i64 4) (.string ⟨t.text.toArray⟩) (.int .i64 0) (.slice none 0 0) (.slice none 0 0)
  obtain ⟨⟨q0, q1, q2, q3, q4⟩, _, _⟩ := block5 HF
  refine bodyPost_ret (v := .agg #[.int .i64 4, .string ⟨t.text.toArray⟩, .int .i64 0, .slice none 0 0, .slice none 0 0]) (by simp [results, Tryd.results27, go_sem, q0, q1, q2, q3, q4]) rfl ?_
  exact expr_ok ⟨_, _, rfl, RInts_nil, RArgs_nil⟩ (((((HP6.out.setO _ _ hwp hvr6.out).setO _ _ hwp hvr6.out).setO _ _ hwp hvr6.out).setO _ _ hwp hvr6.out).setO _ _ hwp hvr6.out) (drop_next Ht.out)
    (grownBy_setNew (grownBy_setNew (grownBy_setNew (grownBy_setNew (grownBy_setNew HG6.out (Nat.le_refl _) _ _) (Nat.le_refl _) _ _) (Nat.le_refl _) _ _) (Nat.le_refl _) _ _) (Nat.le_refl _) _ _)

set_option maxRecDepth 100000 in
set_option maxHeartbeats 8000000 in
theorem f27_listErr {B p e i n d : Nat} {w : World} {v : Value} {ts l : List Tok} {t : Tok} (h : PS B w p v ts e i n) (ht : ts.drop i = t :: l) {l2 : List Tok} {c : Int} (hk : isS t 91 = true) (hl : pList l = .err c l2) (hd : d ≤ 32) (hn : n ≠ 1024)  :
    Calls Tryd.prog 27 #[.pointer (some ⟨p, 0, none⟩), .int .i64 d] w (ExprPost B w p v ts e (.err c l2)) := by
  have h91 : isT 91 (ts.drop i) = true := by rw [ht]; exact hk
  have h55 := fun (W : World) (hW : PS B W p v ts e (i + 1) (n + 1)) => f55_any hW
  rw [drop_next ht, hl] at h55
  clear hk hl
  have hnn := h.nsmall
  have hn1k : n + 1 ≤ 1024 := by omega
  have hnb : ((n : Int) == 1024) = false := by simp; omega
  have hlt := drop_lt ht
  have Ht := Lib.hid ht; clear ht hn
  have hnot : ∀ (x : Bool) (w : World), (Op.unary .not (.bool x)).run Tryd.prog w = .ok (.bool (!x)) w := fun _ _ => rfl
  have hA := h.alloc zeroEx
  obtain ⟨c0, c1, c2, c3⟩ := hA.cell
  have Hg : Hid (w.grownBy (w.alloc zeroEx) (some p)) := Lib.hid (grownBy_alloc (grownBy_drw (Drw.refl w)) _)
  have hlp := h.lt
  go_enter Tryd.func27, Tryd.ntmps27
  go_wp2_with fail
  have H29 := Lib.hid (fun W (hW : Drw (w.alloc zeroEx) W) => f29_any (hA.drew hW))
  go_quiet ((go_at_call 29; exact Calls.quiet_of (H29.out _ ⟨_, rfl⟩)))
  have hd1 : Drw (w.alloc zeroEx) ((w.alloc zeroEx).drewN nq) := ⟨_, rfl⟩
  go_wp2_with fail
  refine (f53_yes 91 (hA.drew hd1) h91).mono ?_
  rintro en w2 ⟨rfl, h2, hg2⟩
  go_wp2_with fail
  refine (f54_any h2).mono ?_
  rintro en w3 ⟨rfl, hd3⟩
  have hP := h2.drew hd3
  have Hg3 := Lib.hid (grownBy_trans Hg.out (grownBy_trans (grownBy_trans (grownBy_drw (p := p) hd1) hg2) (grownBy_drw hd3)))
  have Hr3 : Hid (w3.heap[w.heap.size]? = some zeroEx) := Lib.hid (by
    obtain ⟨m, rfl⟩ := hd3
    exact (hg2.block _ (by simp [World.drewN]) (fun e => by simp at e; omega)).trans (heap_alloc_new w _))
  clear hd3 h2 hg2 hd1 c0 c1 c2 c3
  obtain ⟨c0, c1, c2, c3⟩ := hP.cell
  have f1 := hP.frz 1
  have f3 := hP.frz 3
  have HP5 := Lib.hid (hP.setN (n + 1) hn1k)
  have HG5 := Lib.hid (grownBy_set Hg3.out 3 (.int .i64 (n + 1 : Nat)))
  have HR5 : Hid ((w3.setCell ⟨p, 3, none⟩ (.int .i64 (n + 1 : Nat))).heap[w.heap.size]? = some zeroEx) := Lib.hid ((Below.heap_setCell _ _ _ _ (by simp; omega)).trans Hr3.out)
  have HS5 : Hid ((w3.setCell ⟨p, 3, none⟩ (.int .i64 (n + 1 : Nat))).heap.size = w3.heap.size) := Lib.hid (by simp [World.setCell])
  have hrl : w.heap.size < w3.heap.size := (Array.getElem?_eq_some_iff.1 Hr3.out).1
  go_wp2_with fail
  refine (h55 _ HP5.out).mono ?_
  rintro en w6 ⟨rfl, hg6⟩
  exact ⟨rfl, expr_err (grownBy_trans HG5.out hg6)⟩

set_option maxRecDepth 100000 in
set_option maxHeartbeats 8000000 in
theorem f27_list {B p e i n d : Nat} {w : World} {v : Value} {ts l : List Tok} {t : Tok} (h : PS B w p v ts e i n) (ht : ts.drop i = t :: l) {l2 : List Tok} {zs : List Int} (hk : isS t 91 = true) (hl : pList l = .ok zs l2) (hd : d ≤ 32) (hn : n ≠ 1024)  :
    Calls Tryd.prog 27 #[.pointer (some ⟨p, 0, none⟩), .int .i64 d] w (ExprPost B w p v ts e (.ok [.mk 2 [] 0 zs []] (n + 1) l2)) := by
  have h91 : isT 91 (ts.drop i) = true := by rw [ht]; exact hk
  have h55 := fun (W : World) (hW : PS B W p v ts e (i + 1) (n + 1)) => f55_any hW
  rw [drop_next ht, hl] at h55
  clear hk hl
  have hnn := h.nsmall
  have hn1k : n + 1 ≤ 1024 := by omega
  have hnb : ((n : Int) == 1024) = false := by simp; omega
  have hlt := drop_lt ht
  have Ht := Lib.hid ht; clear ht hn
  have hnot : ∀ (x : Bool) (w : World), (Op.unary .not (.bool x)).run Tryd.prog w = .ok (.bool (!x)) w := fun _ _ => rfl
  have hA := h.alloc zeroEx
  obtain ⟨c0, c1, c2, c3⟩ := hA.cell
  have Hg : Hid (w.grownBy (w.alloc zeroEx) (some p)) := Lib.hid (grownBy_alloc (grownBy_drw (Drw.refl w)) _)
  have hlp := h.lt
  go_enter Tryd.func27, Tryd.ntmps27
  go_wp2_with fail
  have H29 := Lib.hid (fun W (hW : Drw (w.alloc zeroEx) W) => f29_any (hA.drew hW))
  go_quiet ((go_at_call 29; exact Calls.quiet_of (H29.out _ ⟨_, rfl⟩)))
  have hd1 : Drw (w.alloc zeroEx) ((w.alloc zeroEx).drewN nq) := ⟨_, rfl⟩
  go_wp2_with fail
  refine (f53_yes 91 (hA.drew hd1) h91).mono ?_
  rintro en w2 ⟨rfl, h2, hg2⟩
  go_wp2_with fail
  refine (f54_any h2).mono ?_
  rintro en w3 ⟨rfl, hd3⟩
  have hP := h2.drew hd3
  have Hg3 := Lib.hid (grownBy_trans Hg.out (grownBy_trans (grownBy_trans (grownBy_drw (p := p) hd1) hg2) (grownBy_drw hd3)))
  have Hr3 : Hid (w3.heap[w.heap.size]? = some zeroEx) := Lib.hid (by
    obtain ⟨m, rfl⟩ := hd3
    exact (hg2.block _ (by simp [World.drewN]) (fun e => by simp at e; omega)).trans (heap_alloc_new w _))
  clear hd3 h2 hg2 hd1 c0 c1 c2 c3
  obtain ⟨c0, c1, c2, c3⟩ := hP.cell
  have f1 := hP.frz 1
  have f3 := hP.frz 3
  have HP5 := Lib.hid (hP.setN (n + 1) hn1k)
  have HG5 := Lib.hid (grownBy_set Hg3.out 3 (.int .i64 (n + 1 : Nat)))
  have HR5 : Hid ((w3.setCell ⟨p, 3, none⟩ (.int .i64 (n + 1 : Nat))).heap[w.heap.size]? = some zeroEx) := Lib.hid ((Below.heap_setCell _ _ _ _ (by simp; omega)).trans Hr3.out)
  have HS5 : Hid ((w3.setCell ⟨p, 3, none⟩ (.int .i64 (n + 1 : Nat))).heap.size = w3.heap.size) := Lib.hid (by simp [World.setCell])
  have hrl : w.heap.size < w3.heap.size := (Array.getElem?_eq_some_iff.1 Hr3.out).1
  go_wp2_with fail
  refine (h55 _ HP5.out).mono ?_
  rintro en w6 ⟨lv, i', rfl, ho6, hp6, hd6, hg6⟩
  have HP6 := Lib.hid hp6
  have HG6 := Lib.hid (grownBy_trans HG5.out hg6)
  have HR6 : Hid (w6.heap[w.heap.size]? = some zeroEx) := Lib.hid ((hg6.block _ (by simp [World.setCell]; exact hrl) (fun e => by simp at e; omega)).trans HR5.out)
  have HI6 : Hid (RInts (fun b => w3.heap.size ≤ b) w6 lv zs) := Lib.hid (RInts_own ho6 (fun b hb => by rw [HS5.out] at hb; exact hb))
  have HD6 := Lib.hid hd6
  clear hp6 hg6 ho6 hd6 c0 c1 c2 c3
  obtain ⟨⟨r0, r1, r2, r3, r4⟩, ⟨z0, z1, z2, z3, z4⟩, hrl6⟩ := block5 HR6.out
  have hvr6 := Lib.hid (own_ne HP6.out.own HR6.out (by decide))
  have hwp : ¬ w.heap.size = p := by omega
  obtain ⟨la, lc, rfl⟩ : ∃ la lc, lv = .slice la zs.length lc := by obtain ⟨la, lc, h, _⟩ := HI6.out; exact ⟨la, lc, h⟩
  go_wp2_with fail
  have HF := put5 HR6.out (.int .i64 2) (.string ⟨#[]⟩) (.int .i64 0) (.slice la zs.length lc) (.slice none 0 0)
  obtain ⟨⟨q0, q1, q2, q3, q4⟩, _, _⟩ := block5 HF
  refine bodyPost_ret (v := .agg #[.int .i64 2, .string ⟨#[]⟩, .int .i64 0, .slice la zs.length lc, .slice none 0 0]) (by simp [results, Tryd.results27, go_sem, q0, q1, q2, q3, q4]) rfl ?_
  refine expr_ok ⟨_, _, rfl, RInts_mono (fun b o u hb hu => ⟨by omega, ?_⟩) HI6.out, RArgs_nil⟩ (((((HP6.out.setO _ _ hwp hvr6.out).setO _ _ hwp hvr6.out).setO _ _ hwp hvr6.out).setO _ _ hwp hvr6.out).setO _ _ hwp hvr6.out) HD6.out
    (grownBy_setNew (grownBy_setNew (grownBy_setNew (grownBy_setNew (grownBy_setNew HG6.out (Nat.le_refl _) _ _) (Nat.le_refl _) _ _) (Nat.le_refl _) _ _) (Nat.le_refl _) _ _) (Nat.le_refl _) _ _)
  rw [← hu]
  refine World.cell?_of_block ?_
  simp only []
  have hbw : b ≠ w.heap.size := by omega
  rw [Below.heap_setCell _ _ _ _ hbw, Below.heap_setCell _ _ _ _ hbw, Below.heap_setCell _ _ _ _ hbw, Below.heap_setCell _ _ _ _ hbw, Below.heap_setCell _ _ _ _ hbw]

end Go.Proofs.YtcaaadhhaanbcaaDoor
