/- The walk of every expression, and of Parse: what the plain grammar says of the text, with the error's place. -/
import Derived.Test.YtcaaadhhaanbcaaDoorWg
import Derived.Test.YtcaaadhhaanbcaaDoorWj
namespace Go.Proofs.YtcaaadhhaanbcaaDoor
open Go.RowKit

theorem f27_all {B p e : Nat} {v : Value} {ts : List Tok} : ∀ k, Says27 B p v ts e k := by
  intro k
  induction k with
  | zero =>
    intro d n i r w hk hd h hx
    have hL : ts.drop i = [] := List.length_eq_zero_iff.1 (by omega)
    have hb : begins (ts.drop i) = false := by rw [hL]; rfl
    rcases px_begins hx with ⟨_, rfl⟩ | h'
    · exact f27_bad h hb
    · rw [hb] at h'; cases h'
  | succ k ih =>
    intro d n i r w hk hd h hx
    generalize hL : ts.drop i = L at hx
    cases hx with
    | bad hb => rw [← hL] at hb ⊢; exact f27_bad h hb
    | deep hb hdn =>
      rw [← hL] at hb ⊢
      simp only [begins, Bool.or_eq_true, beq_iff_eq] at hb
      cases h91 : isT 91 (ts.drop i) with
      | true =>
        by_cases h32 : 32 < d
        · exact f27_deep_91d h h91 h32
        · exact f27_deep_91n h h91 (by omega) (by omega)
      | false =>
        rw [h91] at hb
        rcases hb with (hb | hb) | hb
        · cases hb
        · by_cases h32 : 32 < d
          · exact f27_deep_k2d h h91 hb h32
          · exact f27_deep_k2n h h91 hb (by omega) (by omega)
        · by_cases h32 : 32 < d
          · exact f27_deep_k1d h h91 hb h32
          · exact f27_deep_k1n h h91 hb (by omega) (by omega)
    | num hk' hd' hn => exact f27_num h hL hk' hd' hn
    | list hk' hd' hn hl => exact f27_list h hL hk' hl hd' hn
    | listErr hk' hd' hn hl => exact f27_listErr h hL hk' hl hd' hn
    | name hk' hd' hn hp => exact f27_name h hL hk' hd' hn hp
    | call hk' hd' hn hp hx => exact f27_call ih h hL hk' hp hd' hn (by rw [hL] at hk; simp at hk; omega) hx
    | callErr hk' hd' hn hp hx => exact f27_call ih h hL hk' hp hd' hn (by rw [hL] at hk; simp at hk; omega) hx

theorem f27_any {B p e n i d : Nat} {v : Value} {ts : List Tok} {r : PR} {w : World} (hd : d ≤ 33) (h : PS B w p v ts e i n) (hx : PX none d n (ts.drop i) r) :
    Calls Tryd.prog 27 #[.pointer (some ⟨p, 0, none⟩), .int .i64 d] w (ExprPost B w p v ts e r) := f27_all _ d n i r w (Nat.le_refl _) hd h hx

def ParsePost (res : Option Ex × Int × Nat) (w : World) (e : Ending) (w' : World) : Prop :=
  (match res with
  | (some x, c, p) => ∃ cs, e = .returned (.tuple #[.agg cs, .int .i64 c, .int .i64 p]) ∧ XV (fun b => w.heap.size ≤ b) w' x cs
  | (none, c, p) => e = .returned (.tuple #[.agg #[.int .i64 0, .string ⟨#[]⟩, .int .i64 0, .slice none 0 0, .slice none 0 0], .int .i64 c, .int .i64 p])) ∧ Below w.heap.size w w'

theorem three_new {w w1 : World} {o1 o2 o3 : Obj} (hb : Below (((w.alloc o1).alloc o2).alloc o3).heap.size (((w.alloc o1).alloc o2).alloc o3) w1) :
    w1.heap[w.heap.size]? = some o1 ∧ w1.heap[w.heap.size + 1]? = some o2 ∧ w1.heap[w.heap.size + 2]? = some o3 := by
  refine ⟨?_, ?_, ?_⟩
  · rw [hb.block _ (by simp <;> omega), Below.heap_alloc _ _ _ (by simp <;> omega), Below.heap_alloc _ _ _ (by simp <;> omega)]; exact heap_alloc_new w o1
  · rw [hb.block _ (by simp <;> omega), Below.heap_alloc _ _ _ (by simp <;> omega)]
    have := heap_alloc_new (w.alloc o1) o2
    simpa using this
  · rw [hb.block _ (by simp <;> omega)]
    have := heap_alloc_new ((w.alloc o1).alloc o2) o3
    simpa using this
theorem three_below {w w1 : World} {o1 o2 o3 : Obj} (hb : Below (((w.alloc o1).alloc o2).alloc o3).heap.size (((w.alloc o1).alloc o2).alloc o3) w1) : Below w.heap.size w w1 :=
  ((((Below.refl _ w).alloc (Nat.le_refl _) o1).alloc (by simp) o2).alloc (by simp <;> omega) o3).trans (hb.mono (by simp <;> omega))

set_option maxRecDepth 100000 in
set_option maxHeartbeats 4000000 in
theorem f13_scan (s : ByteArray) (hs : s.size ≤ maxLen) (w : World) {c : Int} {p : Nat} (ht : toks (bts s) = .err c p) :
    Calls Tryd.prog 13 #[.string s] w (ParsePost (none, c, p) w) := by
  have h26 := f26_any s hs
  have H26 : Hid (∀ w, Calls Tryd.prog 26 #[.string s] w fun e w' => e = faultE c p ∧ Below w.heap.size w w') := Lib.hid (fun w => (h26 w).mono fun e w' h => by unfold ScanPost at h; rw [ht] at h; exact h)
  clear h26 ht
  go_enter_defers Tryd.func13, Tryd.ntmps13
  go_wp2_with fail
  refine (H26.out _).mono ?_
  rintro e w1 ⟨rfl, hb⟩
  obtain ⟨hX, hE, hA⟩ := three_new hb
  have e0 : w1.cell? ⟨w.heap.size + 1, 0, none⟩ = some (.int .i64 0) := by rw [Lib.cell_of_heap hE]; rfl
  have a0 : w1.cell? ⟨w.heap.size + 2, 0, none⟩ = some (.int .i64 0) := by rw [Lib.cell_of_heap hA]; rfl
  refine leaves_cons (f := 25) (args := #[.pointer (some ⟨w.heap.size + 1, 0, none⟩), .pointer (some ⟨w.heap.size + 2, 0, none⟩)]) (by simp) (by simp [go_sem]) ?_
  refine (guard_panicking _ _ 0 0 c p [] _ e0 a0 (Lib.frozen_of_heap hE 0) (Lib.frozen_of_heap hA 0) (by omega)).mono ?_
  rintro e u' w2 ⟨rfl, rfl, hg⟩
  have he := hg.he
  have ha := hg.ha
  have hX2 : w2.heap[w.heap.size]? = some zeroEx := (hg.block _ (Array.getElem?_eq_some_iff.1 hX).1 (by omega) (by omega)).trans hX
  obtain ⟨⟨q0, q1, q2, q3, q4⟩, _, _⟩ := block5 hX2
  refine ⟨.tuple #[.agg #[.int .i64 0, .string ⟨#[]⟩, .int .i64 0, .slice none 0 0, .slice none 0 0], .int .i64 c, .int .i64 p], by simp [results, Tryd.results13, go_sem, he, ha, q0, q1, q2, q3, q4], ?_⟩
  refine ⟨rfl, ?_⟩
  have h1 := three_below hb
  exact ⟨hg.os.trans h1.os, hg.tape.trans h1.tape, hg.output.trans h1.output, Nat.le_trans h1.size hg.size, fun k hk => (hg.block k (Nat.lt_of_lt_of_le hk h1.size) (by omega) (by omega)).trans (h1.block k hk)⟩

theorem GuardEnd.below3 {w w1 w2 w3 : World} {c a : Int} {o1 o2 o3 : Obj} (hg : GuardEnd (w.heap.size + 1) (w.heap.size + 2) c a w2 w3) (hb : Below (((w.alloc o1).alloc o2).alloc o3).heap.size (((w.alloc o1).alloc o2).alloc o3) w1) (h12 : Below w1.heap.size w1 w2) :
    Below w.heap.size w w3 := by
  have h1 := (three_below hb).trans (h12.mono (three_below hb).size)
  exact ⟨hg.os.trans h1.os, hg.tape.trans h1.tape, hg.output.trans h1.output, Nat.le_trans h1.size hg.size, fun k hk => (hg.block k (Nat.lt_of_lt_of_le hk h1.size) (by omega) (by omega)).trans (h1.block k hk)⟩

/-- The parser's block is new: what turned it alone turned nothing that was there before it. -/
theorem below_of_grown {w1 w' : World} {o : Obj} (hg : (w1.alloc o).grownBy w' (some w1.heap.size)) : Below w1.heap.size w1 w' :=
  ⟨hg.os, hg.tape, hg.output, Nat.le_trans (by simp) hg.size, fun k hk => (hg.block k (by simp; omega) (fun e => by simp at e; omega)).trans (Below.heap_alloc w1 o k hk)⟩

set_option maxRecDepth 100000 in
set_option maxHeartbeats 4000000 in
theorem f13_err (s : ByteArray) (hs : s.size ≤ maxLen) (w : World) {ts l : List Tok} {c : Int} (ht : toks (bts s) = .ok ts) (hsm : s.size ≤ 65536) (htl : ts.length ≤ 65536) (hx : PX none 1 0 ts (.err c l)) :
    Calls Tryd.prog 13 #[.string s] w (ParsePost (none, c, posT s.size l) w) := by
  have h26 := f26_any s hs
  have H26 : Hid (∀ w, Calls Tryd.prog 26 #[.string s] w fun e w' => ∃ v, e = .returned v ∧ w'.ownsRow w.heap.size 40 4 v ts.length (toksCells ts) ∧ Below w.heap.size w w') := Lib.hid (fun w => (h26 w).mono fun e w' h => by unfold ScanPost at h; rw [ht] at h; exact h)
  have HX := Lib.hid hx
  clear h26 ht hx
  unfold maxLen at hs
  go_enter_defers Tryd.func13, Tryd.ntmps13
  go_wp2_with fail
  refine (H26.out _).mono ?_
  rintro e w1 ⟨v, rfl, ho, hb⟩
  have Hb := Lib.hid hb; clear hb
  have hP : PS w.heap.size (w1.alloc (.cells #[v, .int .i64 0, .int .i64 s.size, .int .i64 0] 50)) w1.heap.size v ts s.size 0 0 :=
    ⟨heap_alloc_new w1 _, (own_lower ho (by simp <;> omega)).alloc _, Nat.zero_le _, htl, hsm, by omega⟩
  obtain ⟨va, vc, rfl⟩ := hP.form
  have HP := Lib.hid hP; clear hP ho
  go_wp2_with fail
  refine (f27_any (d := 1) (by omega) HP.out HX.out).mono ?_
  rintro e w2 ⟨rfl, hg2⟩
  have hb2 := below_of_grown hg2
  obtain ⟨hX, hE, hA⟩ := three_new Hb.out
  have hE2 := (hb2.block _ (Array.getElem?_eq_some_iff.1 hE).1).trans hE
  have hA2 := (hb2.block _ (Array.getElem?_eq_some_iff.1 hA).1).trans hA
  have hX2 := (hb2.block _ (Array.getElem?_eq_some_iff.1 hX).1).trans hX
  have e0 : w2.cell? ⟨w.heap.size + 1, 0, none⟩ = some (.int .i64 0) := by rw [Lib.cell_of_heap hE2]; rfl
  have a0 : w2.cell? ⟨w.heap.size + 2, 0, none⟩ = some (.int .i64 0) := by rw [Lib.cell_of_heap hA2]; rfl
  refine leaves_cons (f := 25) (args := #[.pointer (some ⟨w.heap.size + 1, 0, none⟩), .pointer (some ⟨w.heap.size + 2, 0, none⟩)]) (by simp) (by simp [go_sem]) ?_
  refine (guard_panicking _ _ 0 0 c _ [] _ e0 a0 (Lib.frozen_of_heap hE2 0) (Lib.frozen_of_heap hA2 0) (by omega)).mono ?_
  rintro e u' w3 ⟨rfl, rfl, hg⟩
  have he := hg.he
  have ha := hg.ha
  have hX3 : w3.heap[w.heap.size]? = some zeroEx := (hg.block _ (Array.getElem?_eq_some_iff.1 hX2).1 (by omega) (by omega)).trans hX2
  obtain ⟨⟨q0, q1, q2, q3, q4⟩, _, _⟩ := block5 hX3
  refine ⟨.tuple #[.agg #[.int .i64 0, .string ⟨#[]⟩, .int .i64 0, .slice none 0 0, .slice none 0 0], .int .i64 c, .int .i64 (posT s.size l : Nat)], by simp [results, Tryd.results13, go_sem, he, ha, q0, q1, q2, q3, q4], ?_⟩
  exact ⟨rfl, hg.below3 Hb.out hb2⟩
theorem put5_other {w : World} {b c : Nat} (hb : b ≠ c) (a0 a1 a2 a3 a4 : Value) :
    (((((w.setCell ⟨c, 0, none⟩ a0).setCell ⟨c, 1, none⟩ a1).setCell ⟨c, 2, none⟩ a2).setCell ⟨c, 3, none⟩ a3).setCell ⟨c, 4, none⟩ a4).heap[b]? = w.heap[b]? := by
  rw [Below.heap_setCell _ _ _ _ hb, Below.heap_setCell _ _ _ _ hb, Below.heap_setCell _ _ _ _ hb, Below.heap_setCell _ _ _ _ hb, Below.heap_setCell _ _ _ _ hb]
theorem RInts_form' {G : Nat → Prop} {w : World} {v : Value} {zs : List Int} (h : RInts G w v zs) : ∃ a c, v = .slice a zs.length c := by
  obtain ⟨a, c, h, _⟩ := h; exact ⟨a, c, h⟩
theorem RArgs_form' {G : Nat → Prop} {w : World} {v : Value} {zs : List Ex} (h : RArgs G w v zs) : ∃ a c, v = .slice a zs.length c := by
  obtain ⟨a, c, h, _⟩ := h; exact ⟨a, c, h⟩

set_option maxRecDepth 100000 in
set_option maxHeartbeats 4000000 in
theorem f13_more (s : ByteArray) (hs : s.size ≤ maxLen) (w : World) {ts l : List Tok} {x : Ex} {n : Nat} {t : Tok} (ht : toks (bts s) = .ok ts) (hsm : s.size ≤ 65536) (htl : ts.length ≤ 65536) (hx : PX none 1 0 ts (.ok [x] n (t :: l))) :
    Calls Tryd.prog 13 #[.string s] w (ParsePost (none, 14, t.pos) w) := by
  have h26 := f26_any s hs
  have H26 : Hid (∀ w, Calls Tryd.prog 26 #[.string s] w fun e w' => ∃ v, e = .returned v ∧ w'.ownsRow w.heap.size 40 4 v ts.length (toksCells ts) ∧ Below w.heap.size w w') := Lib.hid (fun w => (h26 w).mono fun e w' h => by unfold ScanPost at h; rw [ht] at h; exact h)
  have HX := Lib.hid hx
  clear h26 ht hx
  unfold maxLen at hs
  go_enter_defers Tryd.func13, Tryd.ntmps13
  go_wp2_with fail
  refine (H26.out _).mono ?_
  rintro e w1 ⟨v, rfl, ho, hb⟩
  have Hb := Lib.hid hb; clear hb
  have hP : PS w.heap.size (w1.alloc (.cells #[v, .int .i64 0, .int .i64 s.size, .int .i64 0] 50)) w1.heap.size v ts s.size 0 0 :=
    ⟨heap_alloc_new w1 _, (own_lower ho (by simp <;> omega)).alloc _, Nat.zero_le _, htl, hsm, by omega⟩
  obtain ⟨va, vc, rfl⟩ := hP.form
  have HP := Lib.hid hP; clear hP ho
  go_wp2_with fail
  refine (f27_any (d := 1) (by omega) HP.out HX.out).mono ?_
  rintro e w2 ⟨x', cs, i2, hxx, rfl, hxv, hP2, hd2, hg2⟩
  simp only [List.cons.injEq, and_true] at hxx
  subst hxx
  obtain ⟨lv, av, rfl, hri, hra⟩ := hxv
  obtain ⟨la, lc, rfl⟩ := RInts_form' hri
  obtain ⟨ba, bc, rfl⟩ := RArgs_form' hra
  have HXV := Lib.hid (And.intro hri hra); clear hri hra
  have hb2 := below_of_grown hg2
  obtain ⟨hX, hE, hA⟩ := three_new Hb.out
  have hE2 := (hb2.block _ (Array.getElem?_eq_some_iff.1 hE).1).trans hE
  have hA2 := (hb2.block _ (Array.getElem?_eq_some_iff.1 hA).1).trans hA
  have hX2 := (hb2.block _ (Array.getElem?_eq_some_iff.1 hX).1).trans hX
  have Hb2 := Lib.hid hb2; clear hb2
  have hP3 := hP2.alloc (.cells #[.int .i64 x.kind, .string ⟨x.name.toArray⟩, .int .i64 x.n, .slice la x.list.length lc, .slice ba x.args.length bc] 26)
  obtain ⟨c0, c1, c2, c3⟩ := hP3.cell
  have HP3 := Lib.hid hP3; clear hP3
  have hsm2 := hP2.small
  have hle2 := hP2.le
  have hlp2 := hP2.lt
  have hlt2 := drop_lt hd2
  have HD2 := Lib.hid hd2; clear hd2
  clear hX hE hA
  go_wp2_with fail
  go_quiet (fail)
  go_wp2_with fail
  have h29 := f29_any (HP3.out.drewN nq)
  rw [HD2.out] at h29
  simp only [posT] at h29
  refine h29.mono ?_
  rintro en w3 ⟨rfl, hd3⟩
  go_wp2_with fail
  refine (f28_any _ _ _).mono ?_
  rintro en w4 ⟨rfl, rfl⟩
  have hb3 : Below w2.heap.size w2 w3 := by
    obtain ⟨m, rfl⟩ := hd3
    exact below_drewN (below_drewN ((Below.refl _ w2).alloc (Nat.le_refl _) _) _) _
  have hE3 := (hb3.block _ (Array.getElem?_eq_some_iff.1 hE2).1).trans hE2
  have hA3 := (hb3.block _ (Array.getElem?_eq_some_iff.1 hA2).1).trans hA2
  have hX3 := (hb3.block _ (Array.getElem?_eq_some_iff.1 hX2).1).trans hX2
  have e0 : w3.cell? ⟨w.heap.size + 1, 0, none⟩ = some (.int .i64 0) := by rw [Lib.cell_of_heap hE3]; rfl
  have a0 : w3.cell? ⟨w.heap.size + 2, 0, none⟩ = some (.int .i64 0) := by rw [Lib.cell_of_heap hA3]; rfl
  refine leaves_cons (f := 25) (args := #[.pointer (some ⟨w.heap.size + 1, 0, none⟩), .pointer (some ⟨w.heap.size + 2, 0, none⟩)]) (by simp) (by simp [go_sem]) ?_
  refine (guard_panicking _ _ 0 0 14 _ [] _ e0 a0 (Lib.frozen_of_heap hE3 0) (Lib.frozen_of_heap hA3 0) (by omega)).mono ?_
  rintro e u' w4 ⟨rfl, rfl, hg⟩
  have he := hg.he
  have ha := hg.ha
  have hX4 : w4.heap[w.heap.size]? = some zeroEx := (hg.block _ (Array.getElem?_eq_some_iff.1 hX3).1 (by omega) (by omega)).trans hX3
  obtain ⟨⟨q0, q1, q2, q3, q4⟩, _, _⟩ := block5 hX4
  refine ⟨.tuple #[.agg #[.int .i64 0, .string ⟨#[]⟩, .int .i64 0, .slice none 0 0, .slice none 0 0], .int .i64 14, .int .i64 t.pos], by simp [results, Tryd.results13, go_sem, he, ha, q0, q1, q2, q3, q4], ?_⟩
  exact ⟨rfl, hg.below3 Hb.out (Hb2.out.trans (hb3.mono Hb2.out.size))⟩

set_option maxRecDepth 100000 in
set_option maxHeartbeats 4000000 in
theorem f13_ok (s : ByteArray) (hs : s.size ≤ maxLen) (w : World) {ts  : List Tok} {x : Ex} {n : Nat}  (ht : toks (bts s) = .ok ts) (hsm : s.size ≤ 65536) (htl : ts.length ≤ 65536) (hx : PX none 1 0 ts (.ok [x] n [])) :
    Calls Tryd.prog 13 #[.string s] w (ParsePost (some x, 0, 0) w) := by
  have h26 := f26_any s hs
  have H26 : Hid (∀ w, Calls Tryd.prog 26 #[.string s] w fun e w' => ∃ v, e = .returned v ∧ w'.ownsRow w.heap.size 40 4 v ts.length (toksCells ts) ∧ Below w.heap.size w w') := Lib.hid (fun w => (h26 w).mono fun e w' h => by unfold ScanPost at h; rw [ht] at h; exact h)
  have HX := Lib.hid hx
  clear h26 ht hx
  unfold maxLen at hs
  go_enter_defers Tryd.func13, Tryd.ntmps13
  go_wp2_with fail
  refine (H26.out _).mono ?_
  rintro e w1 ⟨v, rfl, ho, hb⟩
  have Hb := Lib.hid hb; clear hb
  have hP : PS w.heap.size (w1.alloc (.cells #[v, .int .i64 0, .int .i64 s.size, .int .i64 0] 50)) w1.heap.size v ts s.size 0 0 :=
    ⟨heap_alloc_new w1 _, (own_lower ho (by simp <;> omega)).alloc _, Nat.zero_le _, htl, hsm, by omega⟩
  obtain ⟨va, vc, rfl⟩ := hP.form
  have HP := Lib.hid hP; clear hP ho
  go_wp2_with fail
  refine (f27_any (d := 1) (by omega) HP.out HX.out).mono ?_
  rintro e w2 ⟨x', cs, i2, hxx, rfl, hxv, hP2, hd2, hg2⟩
  simp only [List.cons.injEq, and_true] at hxx
  subst hxx
  obtain ⟨lv, av, rfl, hri, hra⟩ := hxv
  obtain ⟨la, lc, rfl⟩ := RInts_form' hri
  obtain ⟨ba, bc, rfl⟩ := RArgs_form' hra
  have HXV := Lib.hid (And.intro hri hra); clear hri hra
  have hb2 := below_of_grown hg2
  obtain ⟨hX, hE, hA⟩ := three_new Hb.out
  have hE2 := (hb2.block _ (Array.getElem?_eq_some_iff.1 hE).1).trans hE
  have hA2 := (hb2.block _ (Array.getElem?_eq_some_iff.1 hA).1).trans hA
  have hX2 := (hb2.block _ (Array.getElem?_eq_some_iff.1 hX).1).trans hX
  have Hb2 := Lib.hid hb2; clear hb2
  have hP3 := hP2.alloc (.cells #[.int .i64 x.kind, .string ⟨x.name.toArray⟩, .int .i64 x.n, .slice la x.list.length lc, .slice ba x.args.length bc] 26)
  obtain ⟨c0, c1, c2, c3⟩ := hP3.cell
  have HP3 := Lib.hid hP3; clear hP3
  have hsm2 := hP2.small
  have hle2 := hP2.le
  have hlp2 := hP2.lt
  have hge2 : ¬ i2 < ts.length := by
    intro hlt; rw [List.drop_eq_getElem_cons hlt] at hd2; cases hd2
  clear hd2 hX hE hA
  have HX2 := Lib.hid hX2
  have HE2 := Lib.hid hE2
  have HA2 := Lib.hid hA2
  have hxl : w.heap.size < w2.heap.size := (Array.getElem?_eq_some_iff.1 hX2).1
  have hel : w.heap.size + 1 < w2.heap.size := (Array.getElem?_eq_some_iff.1 hE2).1
  have hal : w.heap.size + 2 < w2.heap.size := (Array.getElem?_eq_some_iff.1 hA2).1
  obtain ⟨⟨r0, r1, r2, r3, r4⟩, ⟨z0, z1, z2, z3, z4⟩, _⟩ := block5 hX2
  have e0 : w2.cell? ⟨w.heap.size + 1, 0, none⟩ = some (.int .i64 0) := by rw [Lib.cell_of_heap hE2]; rfl
  have a0 : w2.cell? ⟨w.heap.size + 2, 0, none⟩ = some (.int .i64 0) := by rw [Lib.cell_of_heap hA2]; rfl
  have fe := Lib.frozen_of_heap hE2 0
  have fa := Lib.frozen_of_heap hA2 0
  clear hX2 hE2 hA2
  go_wp2_with fail
  go_quiet (fail)
  go_wp2_with fail
  refine leaves_cons (f := 25) (args := #[.pointer (some ⟨w.heap.size + 1, 0, none⟩), .pointer (some ⟨w.heap.size + 2, 0, none⟩)]) (by simp) (by simp [go_sem]) ?_
  refine (guard_idle _ _ _).mono ?_
  rintro e u' w3 ⟨rfl, rfl, rfl⟩
  generalize hwa : (w2.alloc (.cells #[.int .i64 x.kind, .string ⟨x.name.toArray⟩, .int .i64 x.n, .slice la x.list.length lc, .slice ba x.args.length bc] 26)).drewN nq = wa
  have hold : ∀ k, k < w2.heap.size → wa.heap[k]? = w2.heap[k]? := fun k hk => by rw [← hwa]; exact Below.heap_alloc w2 _ k hk
  have hba : Below w2.heap.size w2 wa := by rw [← hwa]; exact below_drewN ((Below.refl _ w2).alloc (Nat.le_refl _) _) _
  have HF := put5 ((hold _ hxl).trans HX2.out) (.int .i64 x.kind) (.string ⟨x.name.toArray⟩) (.int .i64 x.n) (.slice la x.list.length lc) (.slice ba x.args.length bc)
  have HE' := (put5_other (w := wa) (b := w.heap.size + 1) (c := w.heap.size) (by omega) (.int .i64 x.kind) (.string ⟨x.name.toArray⟩) (.int .i64 x.n) (.slice la x.list.length lc) (.slice ba x.args.length bc)).trans ((hold _ hel).trans HE2.out)
  have HA' := (put5_other (w := wa) (b := w.heap.size + 2) (c := w.heap.size) (by omega) (.int .i64 x.kind) (.string ⟨x.name.toArray⟩) (.int .i64 x.n) (.slice la x.list.length lc) (.slice ba x.args.length bc)).trans ((hold _ hal).trans HA2.out)
  have hcell : ∀ b o u, w.heap.size + 2 < b → w2.cell? ⟨b, o, none⟩ = some u → (((((wa.setCell ⟨w.heap.size, 0, none⟩ (.int .i64 x.kind)).setCell ⟨w.heap.size, 1, none⟩ (.string ⟨x.name.toArray⟩)).setCell ⟨w.heap.size, 2, none⟩ (.int .i64 x.n)).setCell ⟨w.heap.size, 3, none⟩ (.slice la x.list.length lc)).setCell ⟨w.heap.size, 4, none⟩ (.slice ba x.args.length bc)).cell? ⟨b, o, none⟩ = some u := fun b o u hb hu => by
    rw [← hu]
    exact World.cell?_of_block ((put5_other (b := b) (by omega) _ _ _ _ _).trans (hold b (World.block_lt_of_cell? w2 _ hu)))
  have hbw : Below w.heap.size w ((((wa.setCell ⟨w.heap.size, 0, none⟩ (.int .i64 x.kind)).setCell ⟨w.heap.size, 1, none⟩ (.string ⟨x.name.toArray⟩)).setCell ⟨w.heap.size, 2, none⟩ (.int .i64 x.n)).setCell ⟨w.heap.size, 3, none⟩ (.slice la x.list.length lc) |>.setCell ⟨w.heap.size, 4, none⟩ (.slice ba x.args.length bc)) := by
    have h0 : Below w.heap.size w wa := ((three_below Hb.out).trans (Hb2.out.mono (three_below Hb.out).size)).trans (hba.mono (by omega))
    exact ((((h0.setCell (p := ⟨_, 0, none⟩) (Nat.le_refl _) _).setCell (p := ⟨_, 1, none⟩) (Nat.le_refl _) _).setCell (p := ⟨_, 2, none⟩) (Nat.le_refl _) _).setCell (p := ⟨_, 3, none⟩) (Nat.le_refl _) _).setCell (p := ⟨_, 4, none⟩) (Nat.le_refl _) _
  generalize hwf : ((((wa.setCell ⟨w.heap.size, 0, none⟩ (.int .i64 x.kind)).setCell ⟨w.heap.size, 1, none⟩ (.string ⟨x.name.toArray⟩)).setCell ⟨w.heap.size, 2, none⟩ (.int .i64 x.n)).setCell ⟨w.heap.size, 3, none⟩ (.slice la x.list.length lc)).setCell ⟨w.heap.size, 4, none⟩ (.slice ba x.args.length bc) = wf at *
  have HF2 : ((wf.setCell ⟨w.heap.size + 1, 0, none⟩ (.int .i64 0)).setCell ⟨w.heap.size + 2, 0, none⟩ (.int .i64 0)).heap[w.heap.size]? = _ := (Below.heap_setCell _ _ _ _ (by simp)).trans ((Below.heap_setCell _ _ _ _ (by simp)).trans HF)
  have HE3 : ((wf.setCell ⟨w.heap.size + 1, 0, none⟩ (.int .i64 0)).setCell ⟨w.heap.size + 2, 0, none⟩ (.int .i64 0)).cell? ⟨w.heap.size + 1, 0, none⟩ = some (.int .i64 0) := by
    rw [World.cell?_of_block (Below.heap_setCell _ _ _ _ (by simp))]
    have : wf.cell? ⟨w.heap.size + 1, 0, none⟩ = some (.int .i64 0) := by rw [Lib.cell_of_heap HE']; rfl
    simp [go_sem, this]
  have HA3 : ((wf.setCell ⟨w.heap.size + 1, 0, none⟩ (.int .i64 0)).setCell ⟨w.heap.size + 2, 0, none⟩ (.int .i64 0)).cell? ⟨w.heap.size + 2, 0, none⟩ = some (.int .i64 0) := by
    have : (wf.setCell ⟨w.heap.size + 1, 0, none⟩ (.int .i64 0)).cell? ⟨w.heap.size + 2, 0, none⟩ = some (.int .i64 0) := by
      rw [World.cell?_of_block (Below.heap_setCell _ _ _ _ (by simp)), Lib.cell_of_heap HA']; rfl
    simp [go_sem, this]
  obtain ⟨⟨q0, q1, q2, q3, q4⟩, _, _⟩ := block5 HF2
  refine ⟨.tuple #[.agg #[.int .i64 x.kind, .string ⟨x.name.toArray⟩, .int .i64 x.n, .slice la x.list.length lc, .slice ba x.args.length bc], .int .i64 0, .int .i64 0], by simp [results, Tryd.results13, go_sem, q0, q1, q2, q3, q4, HE3, HA3], ?_⟩
  have hs1 : w.heap.size + 3 ≤ w1.heap.size := by have := Hb.out.size; simpa using this
  have hmono : ∀ b o u, (w1.alloc (.cells #[.slice va ts.length vc, .int .i64 0, .int .i64 s.size, .int .i64 0] 50)).heap.size ≤ b → w2.cell? ⟨b, o, none⟩ = some u →
      w.heap.size ≤ b ∧ ((wf.setCell ⟨w.heap.size + 1, 0, none⟩ (.int .i64 0)).setCell ⟨w.heap.size + 2, 0, none⟩ (.int .i64 0)).cell? ⟨b, o, none⟩ = some u := fun b o u hb hu => by
    have hb' : w1.heap.size + 1 ≤ b := by simpa using hb
    refine ⟨by omega, ?_⟩
    rw [World.cell?_of_block ((Below.heap_setCell _ _ _ _ (by simp; omega)).trans (Below.heap_setCell _ _ _ _ (by simp; omega)))]
    exact hcell b o u (by omega) hu
  exact ⟨⟨_, rfl, _, _, rfl, RInts_mono hmono HXV.out.1, RArgs_mono hmono HXV.out.2⟩, (hbw.setCell (p := ⟨_, 0, none⟩) (by simp) _).setCell (p := ⟨_, 0, none⟩) (show w.heap.size ≤ w.heap.size + 2 by omega) _⟩
end Go.Proofs.YtcaaadhhaanbcaaDoor
